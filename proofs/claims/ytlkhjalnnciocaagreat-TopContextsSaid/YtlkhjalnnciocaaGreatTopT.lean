/- siphash.Sum, Tag, Verify. -/
import Derived.Test.YtlkhjalnnciocaaGreatTopS
namespace Go.Fw
open Go.Proofs
set_option maxHeartbeats 8000000
set_option maxRecDepth 8000
def runW (b : List UInt8) (s : S4) : Nat → S4
  | 0 => s
  | i + 1 => mixS (runW b s i) (litA 0 ((b.drop (8 * i)).take 8) 0)
def begS (k : List UInt8) : S4 := ⟨xr (litA 0 (k.take 8) 0) 8317987319222330741, xr (litA 0 (k.drop 8) 0) 7237128888997146477, xr (litA 0 (k.take 8) 0) 7816392313619706465, xr (litA 0 (k.drop 8) 0) 8387220255154660723⟩
def lastS (k b : List UInt8) : S4 := mixS (runW b (begS k) (b.length / 8)) (orB (litA 0 (b.drop (8 * (b.length / 8))) 0) (IntKind.wrap .u64 ((b.length : Int) * 2 ^ min (Int.toNat 56) (IntKind.bits .u64))))
def finS (k b : List UInt8) : S4 := let t := lastS k b; rnds 4 ⟨t.a, t.b, xr t.c 255, t.d⟩
def sumS (k b : List UInt8) : Int := let t := finS k b; xr (xr (xr t.a t.b) t.c) t.d
theorem k_Sum (k b : List UInt8) (t : Tg) (hk : k.length = 16) (hb : b.length ≤ 1000000) : Con Tryz.prog 117 [keyV k, .fs t 1 (lst b8 b)] [] (q64 (sumS k b)) [] := by
  have c1 := fun t => k_little (k.take 8) t (by simp; omega)
  have c2 := fun t => k_little (k.drop 8) t (by simp; omega)
  obtain ⟨v0, hv0⟩ : ∃ s, s = begS k := ⟨_, rfl⟩
  unfold begS at hv0
  refine spec_of_run ttok mixed (T0 := 469763063) (ts := [.tmp 4]) 70 rfl rfl rfl rfl (by simp) rfl ?_
  conv => whnf
  repeat' (first | ((apply Nm.mk rows_lo); (conv => whnf)) | ((apply Nm.mk (rows_hi hk)); (conv => whnf)) | ((first | ((with_reducible apply Nm.mk); focus ((try simp only [lns]); exact rfl)) | ((with_reducible apply Need.mk); focus first | omega | exact CleanP.nil rfl | kernel_rfl) | (apply CallN.mk (c1 _)) | (apply CallN.mk (c2 _)) | (with_reducible apply Frz.l)) <;> conv => whnf) | fail)
  have hd : (b.length : Int).tdiv 8 = ((b.length / 8 : Nat) : Int) := by rw [Int.tdiv_eq_ediv_of_nonneg (by omega)]; omega
  repeat' (first | ((apply Wr.eq (show IntKind.wrap .i64 ((b.length : Int).tdiv 8) = ((b.length / 8 : Nat) : Int) by rw [hd, wrap64_id (by omega)])); (conv => whnf)) | ((with_reducible apply Frz.l) <;> conv => whnf) | fail)
  refine loop_keep ttok mixed (T0 := 469763063) [1, 8, 26] (ι := {i : Nat // i ≤ b.length / 8})
    (fun i => [(2, .pb 0 []), (7, .pb 1 []), (27, int (i.1 : Int))]) (fun i => [.cells (keyV k), .cells (s4V (runW b v0 i.1))]) (fun i => b.length / 8 - i.1) ⟨0, by omega⟩ ?_
  conv => whnf
  repeat' (first | ((apply Same.mk (by rw [hv0]; rfl)); (conv => whnf)) | ((first | (with_reducible apply Same.rfl) | (apply Same.int; focus rfl) | (with_reducible apply Frz.l)) <;> conv => whnf) | fail)
  rintro ⟨i, hi⟩
  dsimp only
  conv => whnf
  have c3 := fun t => k_little ((b.drop (8 * i)).take 8) t (by simp; omega)
  have c4 := k_mix (runW b v0 i) (litA 0 ((b.drop (8 * i)).take 8) 0)
  by_cases hin : i < b.length / 8
  · have en : List.take ((8 * (i : Int) + 8).toNat - (8 * (i : Int)).toNat) (List.drop (8 * (i : Int)).toNat (lst b8 b)) = lst b8 ((b.drop (8 * i)).take 8) := by
      rw [show (8 * (i : Int)).toNat = 8 * i by omega, show (8 * (i : Int) + 8).toNat - 8 * i = 8 by omega, lst_drop, lst_take]
    repeat' (first | ((apply Nm.mk en); (conv => whnf)) | ((first | ((with_reducible apply Nm.mk); focus ((try simp only [lns]); exact rfl)) | ((with_reducible apply Wr.i64); focus omega) | ((with_reducible apply Need.mk); focus first | (simp only [lns]; omega) | kernel_rfl) | (apply CallN.mk (c3 _)) | (apply CallN.mk (c4)) | ((with_reducible apply Bif.dec) <;> intro h <;> (try simp only [lns] at h) <;> (try (exfalso; omega))) | (with_reducible apply Frz.l)) <;> conv => whnf) | fail)
    (refine ⟨⟨i + 1, by omega⟩, ?_⟩; (try dsimp only); conv => whnf); repeat' (first | with_reducible apply True.intro | ((first | ((with_reducible apply Need.mk); focus omega) | (with_reducible apply Same.rfl) | (apply Same.int; focus rfl) | (apply Same.rfl) | (with_reducible apply Turn.l) | (with_reducible apply Frz.l)) <;> conv => whnf) | fail)
  · obtain rfl : i = b.length / 8 := by omega
    have c5 := fun t => k_little (b.drop (8 * (b.length / 8))) t (by simp; omega)
    have c6 := k_mix (runW b v0 (b.length / 8)) (orB (litA 0 (b.drop (8 * (b.length / 8))) 0) (IntKind.wrap .u64 ((b.length : Int) * 2 ^ min (Int.toNat 56) (IntKind.bits .u64))))
    obtain ⟨s1, hs1⟩ : ∃ s1, s1 = lastS k b := ⟨_, rfl⟩
    have q1 : lastS k b = mixS (runW b v0 (b.length / 8)) (orB (litA 0 (b.drop (8 * (b.length / 8))) 0) (IntKind.wrap .u64 ((b.length : Int) * 2 ^ min (Int.toNat 56) (IntKind.bits .u64)))) := by rw [hv0]; rfl
    rw [← q1, ← hs1] at c6
    have c7 := k_rounds ⟨s1.a, s1.b, xr s1.c 255, s1.d⟩ 4 (by decide)
    obtain ⟨s2, hs2⟩ : ∃ s2, s2 = finS k b := ⟨_, rfl⟩
    have q2 : finS k b = rnds 4 ⟨s1.a, s1.b, xr s1.c 255, s1.d⟩ := by rw [finS, ← hs1]
    rw [← q2, ← hs2] at c7
    have q3 : sumS k b = xr (xr (xr s2.a s2.b) s2.c) s2.d := by rw [sumS, ← hs2]
    rw [q3]
    repeat' (first | with_reducible apply True.intro | ((apply Nm.mk (nm_tail (n := 8 * (b.length / 8)) (by omega))); (conv => whnf)) | ((apply Elem.mk _ rfl); (conv => whnf)) | ((apply Need.mk rfl); (conv => whnf)) | ((with_reducible apply Wr.i64); (focus omega); (conv => whnf)) | ((with_reducible apply Wr.u64); (focus omega); (conv => whnf)) | ((apply Wr.mk); (conv => whnf)) | ((apply Same.mk rfl); (conv => whnf)) | ((first | ((with_reducible apply Nm.mk); focus ((try simp only [lns]); exact rfl)) | ((with_reducible apply Need.mk); focus first | omega | (simp only [lns]; omega) | kernel_rfl) | (apply CallN.mk (c5 _)) | (apply CallN.mk (c6)) | (apply CallN.mk (c7)) | ((with_reducible apply Bif.dec) <;> intro h <;> (try simp only [lns] at h) <;> (try (exfalso; omega))) | (with_reducible apply Frz.l)) <;> conv => whnf) | fail)
/-- The n least significant bytes of the sum. -/
def tagB (k b : List UInt8) (i : Nat) : UInt8 := UInt8.ofNat (IntKind.wrap .u8 ((sumS k b).fdiv (2 ^ min (8 * (i : Int)).toNat (IntKind.bits .u64)))).toNat
def tagM (k b : List UInt8) : List UInt8 := (List.range 4).map (tagB k b)
theorem tagM_len (k b : List UInt8) : (tagM k b).length = 4 := by simp [tagM]
theorem wrapB (x : Int) : IntKind.wrap .u8 x = ((UInt8.ofNat (IntKind.wrap .u8 x).toNat).toNat : Int) := by
  have h : 0 ≤ IntKind.wrap .u8 x ∧ IntKind.wrap .u8 x ≤ 255 := by simp [IntKind.wrap, IntKind.bits, IntKind.signed]; omega
  rw [UInt8.toNat_ofNat']
  omega
theorem tag_step {k b : List UInt8} {i : Nat} (h : i < 4) : ((tagM k b).take i ++ List.replicate (4 - i) 0).set i (tagB k b i) = (tagM k b).take (i + 1) ++ List.replicate (4 - (i + 1)) 0 := by
  have e : gt (tagM k b) i = tagB k b i := by rw [gt_eq (by rw [tagM_len]; exact h)]; simp [tagM]
  rw [take_gt (by rw [tagM_len]; exact h), e, List.set_append_right _ _ (by simp [tagM_len]; omega), show 4 - i = (4 - (i + 1)) + 1 by omega, List.replicate_succ]
  have e : i - ((tagM k b).take i).length = 0 := by simp [tagM_len]; omega
  rw [e, List.set_cons_zero]; simp
theorem k_Tag (k b : List UInt8) (t : Tg) (hk : k.length = 16) (hb : b.length ≤ 1000000) : Con Tryz.prog 53 [keyV k, .fs t 1 (lst b8 b), int 4] [] (.tup [.ov 1 0 0 4, bool true]) [.arr (some 4) 1 (lst b8 (tagM k b))] := by
  have c := fun t => k_Sum k b t hk hb
  refine spec_of_run ttok mixed (T0 := 29427663) (ts := [.tmp 6, .tmp 7]) 36 rfl rfl rfl rfl (by simp) rfl ?_
  conv => whnf
  repeat' (first | ((first | (with_reducible apply Nm.rep _ (b8_zero0)) | ((with_reducible apply Nm.mk); focus ((try simp only [lns]); exact rfl)) | ((with_reducible apply Need.mk); focus (refine ⟨?_, ?_, ?_⟩ <;> first | omega | (unfold roomOK; omega) | fail)) | (apply CallN.mk (c _)) | (with_reducible apply Bif.F) | ((with_reducible apply Bif.dec) <;> intro h <;> (try simp only [lns] at h) <;> (try (exfalso; omega))) | (with_reducible apply Frz.l)) <;> conv => whnf) | fail)
  refine loop_keep ttok mixed (T0 := 29427663) [8, 22] (ι := {i : Nat // i ≤ 4})
    (fun i => [(9, .ov 1 1 0 4), (23, int (i.1 : Int))]) (fun i => [.cells (keyV k), .arr (some 4) 1 (lst b8 ((tagM k b).take i.1 ++ List.replicate (4 - i.1) 0))]) (fun i => 4 - i.1) ⟨0, by omega⟩ ?_
  conv => whnf
  repeat' (first | ((apply Same.mk rfl); (conv => whnf)) | ((with_reducible apply Frz.l) <;> conv => whnf) | fail)
  rintro ⟨i, hi⟩
  dsimp only
  conv => whnf
  by_cases hin : i < 4
  · repeat' (first | ((with_reducible apply Wr.i64); (focus omega); (conv => whnf)) | ((apply Wr.eq (wrapB _)); (conv => whnf)) | ((first | ((with_reducible apply Nm.mk); focus ((try simp only [lns, tagM_len]); exact rfl)) | ((with_reducible apply Need.mk); focus omega) | ((with_reducible apply Elem.lst); focus (simp only [lns, tagM_len]; omega)) | ((with_reducible apply Bif.dec) <;> intro h <;> (try simp only [lns, tagM_len] at h) <;> (try (exfalso; omega))) | (with_reducible apply Frz.l)) <;> conv => whnf) | fail)
    (refine ⟨⟨i + 1, by omega⟩, ?_⟩; (try dsimp only); conv => whnf); repeat' (first | with_reducible apply True.intro | ((apply Same.mk (by rw [← tag_step hin, ← lst_set]; rfl)); (conv => whnf)) | ((first | ((with_reducible apply Need.mk); focus omega) | (with_reducible apply Same.rfl) | (apply Same.int; focus rfl) | (with_reducible apply Turn.l) | (with_reducible apply Frz.l)) <;> conv => whnf) | fail)
  · obtain rfl : i = 4 := by omega
    repeat' (first | with_reducible apply True.intro | ((apply Same.mk (by rw [List.take_of_length_le (by rw [tagM_len]; omega), Nat.sub_self, List.replicate_zero, List.append_nil])); (conv => whnf)) | ((first | ((with_reducible apply Bif.dec) <;> intro h <;> (try simp only [lns, tagM_len] at h) <;> (try (exfalso; omega))) | (with_reducible apply Same.rfl) | (apply Same.bool; focus (with_reducible rfl)) | (with_reducible apply Frz.l)) <;> conv => whnf) | fail)
theorem k_Verify (k b m : List UInt8) (t1 t2 : Tg) (hk : k.length = 16) (hb : b.length ≤ 1000000) (hm : m.length = 4) : Con Tryz.prog 57 [keyV k, .fs t1 1 (lst b8 b), .fs t2 1 (lst b8 m)] [] (bool (decide (tagM k b = m))) [] := by
  have c := fun t => k_Tag k b t hk hb
  have ce := fun t1 t2 => k_bytesEqual (tagM k b) m t1 t2
  refine spec_of_run ttok mixed (T0 := 463) (ts := [.tmp 6]) 23 rfl rfl rfl rfl (by simp) rfl ?_
  conv => whnf
  repeat' (first | with_reducible apply True.intro | ((apply Nm.mk (nm_all (tagM_len _ _).symm)); (conv => whnf)) | ((first | ((with_reducible apply Nm.mk); focus ((try simp only [lns, hm, tagM_len]); exact rfl)) | ((with_reducible apply Need.mk); focus first | (simp only [lns, hm, tagM_len]; omega) | exact CleanP.nil rfl) | (apply CallN.mk (c _)) | (apply CallN.mk (ce _ _)) | (with_reducible apply Bif.T) | (with_reducible apply Same.rfl) | (with_reducible apply GiveN.lend) | (with_reducible apply Frz.l)) <;> conv => whnf) | fail)
end Go.Fw
