/- The compressed UDP header, read again; Same. -/
import Derived.Test.YtlkhjalnnciocaaGreatSanE

namespace Go.Fw
open Go.Proofs
set_option maxHeartbeats 8000000
set_option maxRecDepth 8000
theorem k_takeU (b : List UInt8) (at_ n : Nat) (h : 1 ≤ n ∧ n ≤ 8) (hb : b.length ≤ 10000) (ha : at_ + n ≤ b.length) :
    Con Tryz.prog 164 [int (n : Int), .pb 0 [], .pb 1 [], .pb 2 []] [.cells (bys b), .cells (int (at_ : Int)), .cells (int 0)] (q64 (beV ((b.drop at_).take n) : Int)) [.cells (bys b), .cells (int ((at_ + n : Nat) : Int)), .cells (int 0)] := by
  have c := fun t => k_Uint b at_ n t (by omega) (by omega) (by omega)
  rw [uintM, if_pos (by omega), Int.toNat_natCast, Int.toNat_natCast] at c
  refine spec_of_run ttok mixed (T0 := 65775) (ts := [.tmp 5]) 21 rfl rfl rfl rfl (by simp) rfl ?_
  conv => whnf
  repeat' (first | with_reducible apply True.intro | ((apply Same.mk rfl); (conv => whnf)) | ((first | ((with_reducible apply Wr.i64); focus omega) | (apply CallN.mk (c _)) | (with_reducible apply Bif.T) | (with_reducible apply Bif.not) | (with_reducible apply Frz.l)) <;> conv => whnf) | fail)
theorem beV_1 (v : Nat) (h : v < 256) : beV (beN 1 v) = v := beV_beN 1 v (by omega)
theorem beV_2 (v : Nat) (h : v ≤ 65535) : beV (beN 2 v) = v := beV_beN 2 v (by omega)
theorem beN1_eq (v : Nat) : beN 1 v = [UInt8.ofNat v] := by simp [beN]
theorem k_readUDP_A (p : Pkt) (s : Nat) (r : List UInt8) (hA : half p.sp ∧ half p.dp) (hsp : p.sp ≤ 65535) (hdp : p.dp ≤ 65535) (hs : s ≤ 65535) (hr : r.length ≤ 5000) :
    Con Tryz.prog 85 [bys (udpB p s ++ r)] [] (.tup [.v (.int .u16 (p.sp : Int)), .v (.int .u16 (p.dp : Int)), .v (.int .u16 (s : Int)), int ((udpB p s).length : Int), int 0]) [] := by
  unfold udpB
  · rw [if_pos hA]
    obtain ⟨⟨q1, q2⟩, q3, q4⟩ := hA
    generalize hv : (p.sp - 61616) * 16 + (p.dp - 61616) = v
    have hv8 : v < 256 := by omega
    have hl : ([] ++ beN 1 243 ++ beN 1 v ++ beN 2 s).length = 4 := by simp [beN_len]
    rw [hl]
    have e0 : gt ([] ++ beN 1 243 ++ beN 1 v ++ beN 2 s ++ r) 0 = 243 := rfl
    have e1 : (([] ++ beN 1 243 ++ beN 1 v ++ beN 2 s ++ r).drop 1).take 1 = beN 1 v := by simp [beN1_eq]
    have e2 : (([] ++ beN 1 243 ++ beN 1 v ++ beN 2 s ++ r).drop 2).take 2 = beN 2 s := by
      rw [beN1_eq, beN1_eq]; show (beN 2 s ++ r).take 2 = _; exact List.take_left' (beN_len 2 s)
    have hbl : ([] ++ beN 1 243 ++ beN 1 v ++ beN 2 s ++ r).length = 4 + r.length := by simp [beN_len]; omega
    generalize [] ++ beN 1 243 ++ beN 1 v ++ beN 2 s ++ r = b at *
    have t1 := k_takeU b 1 1 (by decide) (by omega) (by omega)
    have t2 := k_takeU b 2 2 (by decide) (by omega) (by omega)
    rw [e1, beV_1 v hv8] at t1
    rw [e2, beV_2 s hs] at t2
    have w1 : IntKind.wrap .u64 ((v : Int).tdiv 16) = ((v / 16 : Nat) : Int) := by
      rw [Int.tdiv_eq_ediv_of_nonneg (by omega)]; simp [IntKind.wrap, IntKind.bits, IntKind.signed]; omega
    have w2 : (v : Int).tmod 16 = ((v % 16 : Nat) : Int) := by rw [Int.tmod_eq_emod_of_nonneg (by omega)]; omega
    have w3 : IntKind.wrap .u64 (61616 + (v : Int).tmod 16) = ((61616 + v % 16 : Nat) : Int) := by
      rw [w2]; simp [IntKind.wrap, IntKind.bits, IntKind.signed]; omega
    refine spec_of_run ttok mixed (T0 := 75557863725948716752895) (ts := [.tmp 2, .tmp 3, .tmp 4, .tmp 5, .cell 6 55]) 82 rfl rfl rfl rfl (by simp) rfl ?_
    conv => whnf
    repeat' (first | with_reducible apply True.intro | ((apply Wr.eq w1); (conv => whnf)) | ((apply Wr.eq w3); (conv => whnf)) | ((apply Same.int (by omega)); (conv => whnf)) | ((first | ((with_reducible apply Nm.mk); focus ((try simp only [lns, hbl, e0]); exact rfl)) | ((with_reducible first | apply Wr.u16 | apply Wr.u64); focus omega) | ((with_reducible apply Need.mk); focus first | omega | (simp only [lns, hbl, e0]; omega) | kernel_rfl) | ((with_reducible apply Elem.lst); focus omega) | (apply CallN.mk (t1)) | (apply CallN.mk (t2)) | (with_reducible apply Bif.F) | ((with_reducible first | apply Bif.dec | apply Bif.beq | apply Bif.bne) <;> intro h <;> (try simp only [lns, hbl, e0] at h) <;> (try first | (exfalso; omega) | (exact absurd (by decide) h) | (exact absurd h (by decide)))) | (with_reducible apply Frz.l)) <;> conv => whnf) | fail)
    done
end Go.Fw

/- The sanity check. -/
namespace Go.Fw
open Go.Proofs
set_option maxHeartbeats 8000000
set_option maxRecDepth 8000
def q1V : SV := .agg [.v (.int .u8 0), .v (.int .u32 0), .v (.int .u8 17), .v (.int .u8 64), ipV (llA D0), ipV (llA D1), .v (.int .u16 0), .v (.int .u16 0), nilV]
theorem k_iDec0 (r : List UInt8) (hr : r.length ≤ 5000) : Con Tryz.prog 84 [bys (126 :: 51 :: r), lnkV D0, lnkV D1, nilV, int 0] [] (.tup [q1V, int 2, int 0]) [] := by
  have cs := k_start0 r hr
  have cf := k_rfields0 (126 :: 51 :: r) 2
  have u0 := fun id => k_rUni3 D0 (by decide) (126 :: 51 :: r) 2 id
  have u1 := fun id => k_rUni3 D1 (by decide) (126 :: 51 :: r) 2 id
  have fi := fun id => k_find0 id 0
  refine spec_of_run ttok mixed (T0 := 20769187753296022049305262685159391) (ts := [.cell 10 107, .tmp 11, .tmp 12]) 122 rfl rfl rfl rfl (by simp) rfl ?_
  conv => whnf
  repeat' (first | with_reducible apply True.intro | ((apply Same.mk rfl); (conv => whnf)) | ((first | ((with_reducible apply Need.mk); focus first | omega | kernel_rfl) | (apply CallN.mk (k_icheck0)) | (apply CallN.mk (cs)) | (apply CallN.mk (cf)) | (apply CallN.mk (fi _)) | (apply CallN.mk (u0 _)) | (apply CallN.mk (u1 _)) | (with_reducible apply Bif.T) | ((with_reducible apply Bif.bne) <;> intro h <;> (try simp only [lns] at h) <;> (try first | (exfalso; omega) | (exact absurd (by decide) h))) | (with_reducible apply Bif.not) | (with_reducible apply Frz.l)) <;> conv => whnf) | fail)
  done
end Go.Fw

/- The sanity check: compress.Decode, Same, sane. -/
namespace Go.Fw
open Go.Proofs
set_option maxHeartbeats 8000000
set_option maxRecDepth 8000
theorem cmp0_len : cmp0.length = 9 := by
  have : half P0.sp ∧ half P0.dp := by decide
  unfold cmp0 udpB
  rw [if_pos this]
  simp [beN_len]
theorem k_cDec0 : Con Tryz.prog 36 [bys cmp0, lnkV D0, lnkV D1, nilV, int 0] [] (.tup [pktV P0, int 0]) [] := by
  obtain ⟨hs, cs⟩ := k_pSum P0 vp_P0 rfl
  have cr := k_readUDP_A P0 (sumP P0) [1, 2, 3] (by decide) (by decide) (by decide) hs (by decide)
  have hu : (udpB P0 (sumP P0)).length = 4 := by
    have := cmp0_len
    simp [cmp0] at this; omega
  have ci := k_iDec0 (udpB P0 (sumP P0) ++ [1, 2, 3]) (by simp; omega)
  have cz := k_pSize P0 (bys [1, 2, 3]) rfl (by decide)
  have ec : cmp0 = 126 :: 51 :: (udpB P0 (sumP P0) ++ [1, 2, 3]) := rfl
  have hl := cmp0_len
  have e0 : gt cmp0 0 = 126 := rfl
  have e2 : cmp0.drop 2 = udpB P0 (sumP P0) ++ [1, 2, 3] := rfl
  have e3 : (udpB P0 (sumP P0) ++ [1, 2, 3]).drop 4 = [1, 2, 3] := by rw [← hu]; simp
  rw [hu] at cr
  rw [← ec] at ci
  refine Con.cl (r := .tup [pktS P0 (.ov 1 0 0 3), int 0]) (hp' := [.arr (some 3) 1 (lst b8 [1, 2, 3])]) ?_
    (.tup (.cons (.aggC (.wk rfl .rfl) (.aggC (.wk rfl .rfl) (.aggC (.wk rfl .rfl) (.aggC (.wk rfl .rfl) (.aggC (.wk rfl .rfl) (.aggC (.wk rfl .rfl) (.aggC (.wk rfl .rfl) (.aggC (.wk rfl .rfl) (.aggC (.all rfl rfl) .aggN))))))))) (.cons (.wk rfl .rfl) .nil))) rfl
  generalize udpB P0 (sumP P0) ++ [1, 2, 3] = U at *
  generalize cmp0 = C at *
  have hU : U.length = 7 := by rw [← e2]; simp [hl]
  refine spec_of_run ttok mixed (T0 := 4840430257757702759644383) (ts := [.cell 10 107, .tmp 11]) 93 rfl rfl rfl rfl (by simp) rfl ?_
  conv => whnf
  repeat' (first | with_reducible apply True.intro | ((apply Nm.mk (show List.take ((lst b8 C).length - 2) (List.drop 2 (lst b8 C)) = lst b8 U by rw [nm_tailN, e2])); (conv => whnf)) | ((apply Nm.mk (show List.take ((lst b8 U).length - 4) (List.drop 4 (lst b8 U)) = lst b8 [1, 2, 3] by rw [nm_tailN, e3])); (conv => whnf)) | ((apply Same.mk rfl); (conv => whnf)) | ((first | (with_reducible apply Nm.rep _ (rfl)) | ((with_reducible apply Nm.mk); focus ((try simp only [lns, hl, e0, hU]); exact rfl)) | ((with_reducible apply Need.mk); focus first | (simp only [lns, hl, e0, hU]; omega) | (unfold roomOK; simp only [lns, hl, e0, hU]; omega)) | ((with_reducible apply Elem.lst); focus omega) | (apply CallN.mk (ci)) | (apply CallN.mk (cr)) | (apply CallN.mk (cz)) | (apply CallN.mk (cs)) | (with_reducible apply Bif.T) | ((with_reducible first | apply Bif.dec | apply Bif.beq | apply Bif.bne) <;> intro h <;> (try simp only [lns, hl, e0, hU] at h) <;> (try first | (exfalso; omega) | (exact absurd h (by decide)))) | (with_reducible apply Frz.l)) <;> conv => whnf) | fail)
  done
end Go.Fw

/- Calls that are given owned arrays, over contracts with shared ones. -/
namespace Go.Fw
set_option maxRecDepth 4000
open Go.Proofs
set_option maxHeartbeats 8000000
theorem RelVL.up0 {cx : Cx} {w : World} : ∀ {l : List SV} {vs : List Value}, (∀ s ∈ l, Fw.below 0 s = true ∧ ∀ t, s ≠ .tup t) → RelVL cx w l vs → RelVL (cx.upto 0) w l vs
  | [], _, _, h => by cases h; exact .nil
  | s :: r, _, hb, h => by
    cases h with
    | cons h1 h2 =>
      obtain ⟨b1, b2⟩ := hb s (by simp)
      exact .cons ((relV_of1 b2).1 (((relV_of1 b2).2 h1).upto b1)) (RelVL.up0 (fun s hs => hb s (by simp [hs])) h2)
theorem Con.give {P : Program} {f : FuncId} {hp0 : List OB} {args0 args1 args : List SV} {r : SV} {hp' : List OB} (h : Con P f args [] r hp') (g : FzT hp0 0 args0 args1) (w1 : ArgsLe args1 args)
    (hb : ∀ s ∈ args1, Fw.below 0 s = true ∧ ∀ t, s ≠ .tup t) (ha : allArr hp0 = true) : Con P f args0 hp0 r hp' := by
  intro cx w vals hgl hm hv
  let ks := List.range hp0.length
  have hkk : ∀ k, 0 ≤ k → k < hp0.length → k ∈ ks := fun k _ hk => List.mem_range.2 hk
  have r1 := g.rel hkk hm hv
  have arr : ∀ k, k < hp0.length → ∃ x E rows, nthB hp0 k = some (.arr x E rows) := fun k hk => by
    rw [nthB_eq, List.getElem?_eq_getElem hk]
    obtain ⟨x, E, rows, e⟩ := allArr_get ha (List.getElem?_eq_getElem hk)
    exact ⟨x, E, rows, by rw [e]⟩
  have hm2 := mem_minus hm (ks := ks) fun k hk => by
    obtain ⟨x, E, rows, e⟩ := arr k (List.mem_range.1 hk)
    exact ⟨_, e, by simp⟩
  have e0 : updHp (nthB hp0) (goneL ks) = nthB (List.replicate hp0.length .gone) := by
    funext k
    rw [goneL_get]
    by_cases hk : k < hp0.length
    · rw [if_pos (List.mem_range.2 hk), nthB_eq, List.getElem?_replicate, if_pos hk]
    · rw [if_neg (fun h => hk (List.mem_range.1 h)), nthB_eq, nthB_eq, List.getElem?_eq_none (by omega), List.getElem?_eq_none (by simp; omega)]
  rw [e0] at hm2
  have hm3 := mem_upto (m := 0) hm2 (fun ob ho => by simp at ho)
  have hargs : RelVL ((cx.minus ks).upto 0) w args _ := (RelVL.up0 hb r1).le w1
  refine (h ((cx.minus ks).upto 0) w _ (fun g s hg => let ⟨g1, g2, g3, g4⟩ := hgl g s hg; ⟨g1, fun h => g2 h.1, fun k C hc => by simp [Cx.upto] at hc, g4⟩) hm3 hargs).mono fun e w' ⟨cx1, v, g1, g2, g3, g4⟩ => ⟨cx1, v, g1, g2, g3, ?_⟩
  refine ⟨g4.le, fun b hb hn => g4.same b hb (fun k C hc => ?_), fun b hb => ?_, fun b hb hO => ?_, fun k b C hc => ?_, fun k ⟨s, hk⟩ => ?_, g4.wk⟩
  · simp [Cx.upto] at hc
  · rcases g4.own b hb with g | g
    · exact .inl g.1
    · exact .inr g
  · by_cases hb0 : ∃ k ∈ ks, ∃ C, cx.bl k = some (.at b C)
    · obtain ⟨k, hk, C, hC⟩ := hb0
      obtain ⟨x, E, rows, e⟩ := arr k (List.mem_range.1 hk)
      exact .inr ⟨k, C, (fun ⟨s, hs⟩ => by rw [e] at hs; cases hs), hC⟩
    · have hO2 : ((cx.minus ks).upto 0).O b := ⟨hO, fun k hk C hc => hb0 ⟨k, hk, C, hc⟩⟩
      rcases g4.old b hb hO2 with g | ⟨k, C, _, g⟩
      · exact .inl g
      · simp [Cx.upto] at g
  · rcases g4.blk k b C hc with ⟨k', _, g⟩ | g
    · simp [Cx.upto] at g
    · exact .inr g
  · rcases Nat.lt_or_ge k hp0.length with hk2 | hk2
    · obtain ⟨x, E, rows, e⟩ := arr k hk2
      rw [e] at hk; cases hk
    · rw [nthB_eq, List.getElem?_eq_none hk2] at hk; cases hk
theorem k_bSame (a : List UInt8) (t1 t2 : Tg) (ha : a.length ≤ 100000) : Con Tryz.prog 38 [.fs t1 1 (lst b8 a), .fs t2 1 (lst b8 a)] [] (bool true) [] := by
  refine spec_of_run ttok mixed (T0 := 33571891) (ts := [.tmp 4]) 26 rfl rfl rfl rfl (by simp) rfl ?_
  conv => whnf
  repeat' (first | ((first | ((with_reducible apply Nm.mk); focus ((try simp only [lns]); exact rfl)) | ((with_reducible apply Bif.bne) <;> intro h <;> (try simp only [lns] at h) <;> (try (exfalso; omega))) | (with_reducible apply Frz.l)) <;> conv => whnf) | fail)
  refine loop_keep ttok mixed (T0 := 33571891) [0, 1] (ι := {k : Nat // k ≤ a.length})
    (fun k => [(5, int (k.1 : Int))]) (fun _ => []) (fun k => a.length - k.1) ⟨0, by omega⟩ ?_
  conv => whnf
  repeat' (first | ((first | (with_reducible apply Same.rfl) | (apply Same.int; focus rfl) | (with_reducible apply Frz.l)) <;> conv => whnf) | fail)
  rintro ⟨k, hk⟩
  dsimp only
  conv => whnf
  by_cases hkn : k < a.length
  · repeat' (first | ((first | ((with_reducible apply Nm.mk); focus ((try simp only [lns]); exact rfl)) | ((with_reducible apply Wr.i64); focus omega) | ((with_reducible apply Need.mk); focus first | (simp only [lns]; omega) | kernel_rfl) | ((with_reducible apply Elem.lst); focus omega) | ((with_reducible first | apply Bif.dec | apply Bif.bne) <;> intro h <;> (try simp only [lns] at h) <;> (try (exfalso; omega))) | (with_reducible apply Frz.l)) <;> conv => whnf) | fail)
    (refine ⟨⟨k + 1, by omega⟩, ?_⟩; (try dsimp only); conv => whnf); repeat' (first | with_reducible apply True.intro | ((first | ((with_reducible apply Need.mk); focus omega) | (with_reducible apply Same.rfl) | (apply Same.int; focus rfl) | (with_reducible apply Turn.l) | (with_reducible apply Frz.l)) <;> conv => whnf) | fail)
  · repeat' (first | with_reducible apply True.intro | ((first | ((with_reducible apply Nm.mk); focus ((try simp only [lns]); exact rfl)) | ((with_reducible apply Bif.dec) <;> intro h <;> (try simp only [lns] at h) <;> (try (exfalso; omega))) | (apply Same.bool; focus (with_reducible rfl)) | (with_reducible apply Frz.l)) <;> conv => whnf) | fail)
theorem k_pkSame (p : Pkt) (hp : p.pay.length ≤ 100000) : Con Tryz.prog 37 [pktV p, pktV p] [] (bool true) [] := by
  have c := fun t1 t2 => k_bSame p.pay t1 t2 hp
  refine spec_of_run ttok mixed (T0 := 31) (ts := [.tmp 4]) 66 rfl rfl rfl rfl (by simp) rfl ?_
  conv => whnf
  repeat' (first | with_reducible apply True.intro | ((first | (apply CallN.mk (c _ _)) | (with_reducible apply Bif.T) | ((with_reducible apply Bif.beq) <;> intro h <;> (try simp only [lns] at h) <;> (try first | (exfalso; omega) | (exact absurd rfl h))) | (with_reducible apply Same.rfl) | (with_reducible apply Frz.l)) <;> conv => whnf) | fail)
end Go.Fw

/- The sanity check holds. -/
namespace Go.Fw
open Go.Proofs
set_option maxHeartbeats 8000000
set_option maxRecDepth 8000
theorem vg_X1 : VG (grd1 X0) := vg_X0.grd1 (by decide)
theorem gt_encL {g : Grd} {P : List (List UInt8)} {n i : Nat} (h : i < n) : gt (encL g P n) i = encM (frI g P i) := by
  rw [gt_eq (by rw [encL_len]; exact h)]; simp [encL]
theorem k_sealed1 (b : List UInt8) (hb : b.length ≤ 95) : Con Tryz.prog 9 [grdV (grd1 X0), int 0, int 1, .ov 1 0 0 1] [.arr (some 1) 1 [bys b]]
    (.tup [grdV (gN (grd1 X0) 1), .fs .no 1 (lst bys (encL (grd1 X0) [b] 1)), bool true]) [] := by
  have c := k_sealed (grd1 X0) [b] ⟨(some 1).map (· - 0), false⟩ vg_X1 (by show 1 + 1 ≤ 1048576; decide) (fun x hx => by rw [List.mem_singleton.1 hx]; exact hb) (by simp)
  refine Con.give c (.cons .same (.cons .same (.cons .same (.cons (.fz (Nat.zero_le _) rfl (by simp) rfl) .nil)))) ⟨ArgLe.rfl, ArgLe.rfl, ArgLe.rfl, ArgLe.rfl, True.intro⟩ (fun s hs => ?_) rfl
  simp only [List.mem_cons, List.not_mem_nil, or_false] at hs
  rcases hs with rfl | rfl | rfl | rfl
  · exact ⟨rfl, fun t e => by cases e⟩
  · exact ⟨rfl, fun t e => by cases e⟩
  · exact ⟨rfl, fun t e => by cases e⟩
  · exact ⟨rfl, fun t e => by cases e⟩
theorem sf_1 (b : List UInt8) (hb : b.length ≤ 95) : SF (frI (grd1 X0) [b] 0) := frI_SF vg_X1 (by show 1 + 0 ≤ 1048576; decide) hb
theorem k_opened1 (b : List UInt8) (hb : b.length ≤ 95) : Con Tryz.prog 13 [grdV Y1, bys (encM (frI (grd1 X0) [b] 0))] [] (.tup [grdV { Y1 with ps := [accM ⟨0, 4294967295⟩ 1] }, bys b, bool true]) [] := by
  have c := k_opened Y1 ⟨0, 4294967295⟩ (frI (grd1 X0) [b] 0) vg_Y1 rfl (sf_1 b hb)
  rw [if_neg (by show ¬ seenP ⟨0, 4294967295⟩ 1 = true; decide)] at c
  exact c
theorem k_sane : Con Tryz.prog 14 [] [] (bool true) [] := by
  have c0 := k_device 0 (by decide)
  have c1 := k_device 1 (by decide)
  have hl := cmp0_len
  have cs := k_sealed1 cmp0 (by omega)
  have co := k_opened1 cmp0 (by omega)
  rw [← gt_encL (n := 1) (by decide)] at co
  have cb := fun t1 t2 => k_bSame cmp0 t1 t2 (by omega)
  have cp := k_pkSame P0 (by decide)
  have hel := encL_len (grd1 X0) [cmp0] 1
  refine spec_of_run ttok mixed (T0 := 4611686018427416063) (ts := [.tmp 0]) 83 rfl rfl rfl rfl (by simp) rfl ?_
  conv => whnf
  repeat' (first | ((with_reducible apply GiveN.mk [2]); (conv => whnf)) | ((apply CallN.mk (k_local)) <;> conv => whnf) | fail)
  refine Frz.mk 1 ?_
  conv => whnf
  repeat' (first | with_reducible apply True.intro | ((with_reducible apply GiveN.mk [3]); (conv => whnf)) | ((apply Nm.mk (nm_all (f := b8) (l := [1, 2, 3]) rfl)); (conv => whnf)) | ((apply Same.mk rfl); (conv => whnf)) | ((first | ((with_reducible apply Nm.mk); focus ((try simp only [lns, hel]); exact rfl)) | ((with_reducible apply Need.mk); focus first | (simp only [lns, hel]; omega) | kernel_rfl) | ((with_reducible apply Elem.lst); focus omega) | (apply CallN.mk (c0)) | (apply CallN.mk (c1)) | (apply CallN.le (k_cEnc0); focus ((repeat' (first | (with_reducible apply ArgLe.nil) | (exact ArgLe.nil) | (exact ArgLe.rfl) | (exact ArgLe.fs) | (exact True.intro) | (apply And.intro) | (apply Wk.arg; repeat' (first | (exact Wk.rfl) | (exact Wk.nilS) | (exact Wk.tag) | (apply Wk.cons) | (apply Wk.lits) | (exact WkL.nil) | (apply WkL.cons) | fail)) | fail)); done)) | (apply CallN.mk (k_cDec0)) | (apply CallN.mk (k_pair)) | (apply CallN.mk (cs)) | (apply CallN.mk (co)) | (apply CallN.mk (cb _ _)) | (apply CallN.le (cp); focus ((repeat' (first | (with_reducible apply ArgLe.nil) | (exact ArgLe.nil) | (exact ArgLe.rfl) | (exact ArgLe.fs) | (exact True.intro) | (apply And.intro) | (apply Wk.arg; repeat' (first | (exact Wk.rfl) | (exact Wk.nilS) | (exact Wk.tag) | (apply Wk.cons) | (apply Wk.lits) | (exact WkL.nil) | (apply WkL.cons) | fail)) | fail)); done)) | (with_reducible first | apply Bif.T | apply Bif.F) | ((with_reducible apply Bif.bne) <;> intro h <;> (try simp only [lns, hel] at h) <;> (try (exfalso; omega))) | (with_reducible apply Bif.not) | (with_reducible apply Frz.l)) <;> conv => whnf) | fail)
  done
end Go.Fw
