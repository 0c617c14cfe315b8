/- The compressed UDP header, read again; Same. -/
import Derived.Test.YtlkhjalnnciocaaGreatSanE
namespace Go.Fw
open Go.Proofs
set_option maxHeartbeats 8000000
set_option maxRecDepth 8000
theorem k_takeU (b : List UInt8) (at_ n : Nat) (h : 1 ≤ n ∧ n ≤ 8) (hb : b.length ≤ 10000) (ha : at_ + n ≤ b.length) :
    Con Tryz.prog 164 [int (n : Int), .pb 0 [], .pb 1 [], .pb 2 []] [.cells (bys b), .cells (int (at_ : Int)), .cells (int 0)] (q64 (beV ((b.drop at_).take n) : Int)) [.cells (bys b), .cells (int ((at_ + n : Nat) : Int)), .cells (int 0)] := by
  have c := fun t => k_Uint b at_ n t (by omega) (by omega) (by omega)
  rw [uintM, if_pos (by omega), Int.toNat_natCast, Int.toNat_natCast] at c
  refine spec_of_run ttok mixed (T0 := 65775) (ts := [.tmp 5]) 21 rfl rfl rfl rfl (by simp) rfl ?_
  conv => whnf
  repeat' (first | with_reducible apply True.intro | ((apply Same.mk rfl); (conv => whnf)) | ((first | (with_reducible first | apply Nm.set _ (int_mk _) | apply Nm.snoc _ (int_mk _) | apply Nm.rep _ (int_mk _) | apply Nm.set _ (bool_mk _) | apply Nm.snoc _ (bool_mk _) | apply Nm.rep _ (bool_mk _) | apply Nm.set _ (rfl) | apply Nm.snoc _ (rfl) | apply Nm.rep _ (rfl)) | ((with_reducible apply Nm.mk); focus ((try simp only [lns]); exact rfl)) | ((with_reducible first | apply Wr.i64 | apply Wr.u8 | apply Wr.u16 | apply Wr.u32 | apply Wr.u64); focus omega) | ((with_reducible apply Need.mk); focus first | omega | (simp only [lns]; omega) | exact List.cons_ne_nil _ _ | exact CleanP.nil rfl | exact CleanP.cell rfl rfl | exact CleanP.lst rfl (fun _ => rfl) | exact CleanP.lst2 rfl (fun _ => rfl) (fun _ => rfl) | kernel_rfl | (dsimp only; omega) | (unfold roomOK; simp only [lns]; omega) | (refine ⟨?_, ?_, ?_⟩ <;> first | omega | (unfold roomOK; omega) | fail)) | ((with_reducible apply Elem.lst); focus first | omega | (simp only [lns]; omega)) | (apply CallN.mk (c _)) | (with_reducible first | apply Bif.T | apply Bif.F) | ((with_reducible first | apply Bif.dec | apply Bif.beq | apply Bif.bne) <;> intro h <;> (try simp only [lns] at h) <;> (try first | (exfalso; omega) | (exact absurd True.intro h))) | (with_reducible first | apply Bif.not | apply Bif.and | apply Bif.or) | ((with_reducible apply Bif.mk) <;> intro h <;> (try first | (exfalso; omega) | (exact absurd True.intro h))) | (with_reducible apply Same.rfl) | (apply Same.int; focus first | rfl | omega | (dsimp only; omega) | (simp only [lns]; omega)) | (apply Same.bool; focus (with_reducible rfl)) | (apply Same.ov; (focus first | rfl | omega | (simp only [lns]; omega)); focus first | rfl | omega | (simp only [lns]; first | done | omega)) | ((with_reducible apply Same.mk); focus first | omega | (simp only [lns]; omega)) | (apply Same.rfl) | (with_reducible first | apply Alt.l | apply OwnN.l | apply Sl3.l | apply Cut.l | apply Turn.l | apply GiveN.lend) | (with_reducible apply Frz.l)) <;> conv => whnf) | fail)
theorem beV_1 (v : Nat) (h : v < 256) : beV (beN 1 v) = v := beV_beN 1 v (by omega)
theorem beV_2 (v : Nat) (h : v ≤ 65535) : beV (beN 2 v) = v := beV_beN 2 v (by omega)
theorem beN1_eq (v : Nat) : beN 1 v = [UInt8.ofNat v] := by simp [beN]
theorem k_readUDP_A (p : Pkt) (s : Nat) (r : List UInt8) (hA : half p.sp ∧ half p.dp) (hsp : p.sp ≤ 65535) (hdp : p.dp ≤ 65535) (hs : s ≤ 65535) (hr : r.length ≤ 5000) :
    Con Tryz.prog 85 [bys (udpB p s ++ r)] [] (.tup [.v (.int .u16 (p.sp : Int)), .v (.int .u16 (p.dp : Int)), .v (.int .u16 (s : Int)), int ((udpB p s).length : Int), int 0]) [] := by
  unfold udpB
  · rw [if_pos hA]
    obtain ⟨⟨q1, q2⟩, q3, q4⟩ := hA
    generalize hv : (p.sp - 61616) * 16 + (p.dp - 61616) = v
    have hv8 : v < 256 := by omega
    have hl : ([] ++ beN 1 243 ++ beN 1 v ++ beN 2 s).length = 4 := by simp [beN_len]
    rw [hl]
    have e0 : gt ([] ++ beN 1 243 ++ beN 1 v ++ beN 2 s ++ r) 0 = 243 := rfl
    have e1 : (([] ++ beN 1 243 ++ beN 1 v ++ beN 2 s ++ r).drop 1).take 1 = beN 1 v := by simp [beN1_eq]
    have e2 : (([] ++ beN 1 243 ++ beN 1 v ++ beN 2 s ++ r).drop 2).take 2 = beN 2 s := by
      rw [beN1_eq, beN1_eq]; show (beN 2 s ++ r).take 2 = _; exact List.take_left' (beN_len 2 s)
    have hbl : ([] ++ beN 1 243 ++ beN 1 v ++ beN 2 s ++ r).length = 4 + r.length := by simp [beN_len]; omega
    generalize [] ++ beN 1 243 ++ beN 1 v ++ beN 2 s ++ r = b at *
    have t1 := k_takeU b 1 1 (by decide) (by omega) (by omega)
    have t2 := k_takeU b 2 2 (by decide) (by omega) (by omega)
    rw [e1, beV_1 v hv8] at t1
    rw [e2, beV_2 s hs] at t2
    have w1 : IntKind.wrap .u64 ((v : Int).tdiv 16) = ((v / 16 : Nat) : Int) := by
      rw [Int.tdiv_eq_ediv_of_nonneg (by omega)]; simp [IntKind.wrap, IntKind.bits, IntKind.signed]; omega
    have w2 : (v : Int).tmod 16 = ((v % 16 : Nat) : Int) := by rw [Int.tmod_eq_emod_of_nonneg (by omega)]; omega
    have w3 : IntKind.wrap .u64 (61616 + (v : Int).tmod 16) = ((61616 + v % 16 : Nat) : Int) := by
      rw [w2]; simp [IntKind.wrap, IntKind.bits, IntKind.signed]; omega
    refine spec_of_run ttok mixed (T0 := 75557863725948716752895) (ts := [.tmp 2, .tmp 3, .tmp 4, .tmp 5, .cell 6 55]) 82 rfl rfl rfl rfl (by simp) rfl ?_
    conv => whnf
    repeat' (first | with_reducible apply True.intro | ((apply Wr.eq w1); (conv => whnf)) | ((apply Wr.eq w3); (conv => whnf)) | ((apply Same.int (by omega)); (conv => whnf)) | ((first | (with_reducible first | apply Nm.set _ (int_mk _) | apply Nm.snoc _ (int_mk _) | apply Nm.rep _ (int_mk _) | apply Nm.set _ (bool_mk _) | apply Nm.snoc _ (bool_mk _) | apply Nm.rep _ (bool_mk _) | apply Nm.set _ (rfl) | apply Nm.snoc _ (rfl) | apply Nm.rep _ (rfl)) | ((with_reducible apply Nm.mk); focus ((try simp only [lns, hbl, e0]); exact rfl)) | ((with_reducible first | apply Wr.i64 | apply Wr.u8 | apply Wr.u16 | apply Wr.u32 | apply Wr.u64); focus omega) | ((with_reducible apply Need.mk); focus first | omega | (simp only [lns, hbl, e0]; omega) | exact List.cons_ne_nil _ _ | exact CleanP.nil rfl | exact CleanP.cell rfl rfl | exact CleanP.lst rfl (fun _ => rfl) | exact CleanP.lst2 rfl (fun _ => rfl) (fun _ => rfl) | kernel_rfl | (dsimp only; omega) | (unfold roomOK; simp only [lns, hbl, e0]; omega) | (refine ⟨?_, ?_, ?_⟩ <;> first | omega | (unfold roomOK; omega) | fail)) | ((with_reducible apply Elem.lst); focus first | omega | (simp only [lns, hbl, e0]; omega)) | (apply CallN.mk (t1)) | (apply CallN.mk (t2)) | (with_reducible first | apply Bif.T | apply Bif.F) | ((with_reducible first | apply Bif.dec | apply Bif.beq | apply Bif.bne) <;> intro h <;> (try simp only [lns, hbl, e0] at h) <;> (try first | (exfalso; omega) | (exact absurd True.intro h) | (exact absurd (by decide) h) | (exact absurd h (by decide)))) | (with_reducible first | apply Bif.not | apply Bif.and | apply Bif.or) | ((with_reducible apply Bif.mk) <;> intro h <;> (try first | (exfalso; omega) | (exact absurd True.intro h) | (exact absurd (by decide) h) | (exact absurd h (by decide)))) | (with_reducible apply Same.rfl) | (apply Same.int; focus first | rfl | omega | (dsimp only; omega) | (simp only [lns, hbl, e0]; omega)) | (apply Same.bool; focus (with_reducible rfl)) | (apply Same.ov; (focus first | rfl | omega | (simp only [lns, hbl, e0]; omega)); focus first | rfl | omega | (simp only [lns, hbl, e0]; first | done | omega)) | ((with_reducible apply Same.mk); focus first | omega | (simp only [lns, hbl, e0]; omega)) | (apply Same.rfl) | (with_reducible first | apply Alt.l | apply OwnN.l | apply Sl3.l | apply Cut.l | apply Turn.l | apply GiveN.lend) | (with_reducible apply Frz.l)) <;> conv => whnf) | fail)
    done
end Go.Fw
