/- TopContexts: the walk. -/
import Derived.Test.YtlkhjalnnciocaaGreatCtxK

namespace Go.Fw
open Go.Proofs
set_option maxHeartbeats 8000000
set_option maxRecDepth 8000
theorem k_TopContexts (l : List Int) (x : Int) (hx : 0 ≤ x ∧ x ≤ 65535) : Con Tryz.prog 6 [.fs .no 1 (ints l), .v (.int .u16 x)] [] (bool true) [] := by
  have cN := k_made_New l
  have hlt : (l.take 400).length ≤ 400 := by simp; omega
  generalize l.take 400 = t at *
  obtain ⟨n, hn⟩ : ∃ n : Nat, 1 + x.tmod 1000 = (n : Int) := ⟨(1 + x.tmod 1000).toNat, by rw [Int.tmod_eq_emod_of_nonneg hx.1]; omega⟩
  have hn1 : 1 ≤ n ∧ n ≤ 1000 := by rw [Int.tmod_eq_emod_of_nonneg hx.1] at hn; omega
  have hw : IntKind.wrap .u16 (1 + x.tmod 1000) = (n : Int) := by rw [hn]; simp [IntKind.wrap, IntKind.bits, IntKind.signed]; omega
  have c0 := k_device 0 (by decide)
  have c1 := k_device 1 (by decide)
  have r0 := k_rIID D0 d0_le
  have r1 := k_rIID D1 d1_le
  refine spec_of_run ttok mixed (T0 := 309485009839359471526445043) (ts := [.tmp 4]) 213 rfl rfl rfl rfl (by simp) rfl ?_
  conv => whnf
  repeat' (first | with_reducible apply True.intro | ((apply Wr.eq hw); (conv => whnf)) | ((apply Same.mk rfl); (conv => whnf)) | ((first | ((with_reducible apply Nm.mk); focus ((try simp only [lns, beN_len, ipB_len]); exact rfl)) | ((with_reducible apply Need.mk); focus first | omega | (simp only [lns, beN_len, ipB_len]; omega) | kernel_rfl) | (apply CallN.mk (cN)) | (refine CallN.ex (k_PrefixV t _ (by decide) hlt) ?_; rintro _ _ ⟨p, k1, rfl, rfl, hp, hk1⟩) | (apply CallN.mk (k_rMulti _)) | (apply CallN.mk (k_OfX _ _)) | (apply CallN.mk (k_sane)) | (with_reducible first | apply Bif.T | apply Bif.F) | ((with_reducible first | apply Bif.dec | apply Bif.beq) <;> intro h <;> (try simp only [lns, beN_len, ipB_len] at h)) | (with_reducible apply GiveN.lend) | (with_reducible apply Frz.l)) <;> conv => whnf) | fail)
  rename_i g1 g2 g3
  have hL : LawOK p n := ⟨hp, by omega, g3, fun e => h (congrArg Subtype.val e), hn1⟩
  have cE := k_dEncode p n _ hp (by omega) rfl
  have cD : Con Tryz.prog 31 [.ov 1 0 0 40, ipV ip0, ipV ip0] [.arr none 1 (lst b8 (msgB p n))] (.tup [msgS 134 64 9 (.fs .no 20 [ciV p n]), int 0]) [] :=
    Con.give (k_dDecode p n hp (by omega)) (.cons (.fz (rs := lst b8 (msgB p n)) (Nat.zero_le _) rfl (by simp [lst, msgB_len]) (nm_all (msgB_len p n).symm)) (.cons .same (.cons .same .nil))) ⟨ArgLe.fs, ArgLe.rfl, ArgLe.rfl, True.intro⟩ (fun s hs => by
      simp only [List.mem_cons, List.not_mem_nil, or_false] at hs
      rcases hs with rfl | rfl | rfl
      · exact ⟨rfl, fun t e => by cases e⟩
      · exact ⟨rfl, fun t e => by cases e⟩
      · exact ⟨rfl, fun t e => by cases e⟩) rfl
  have cS := k_cSet0 (cxtL p n) (vcxL hL)
  have j0 := k_rJoin p (iidL D0 : Int) hp hL.hb
  have j1 := k_rJoin p (iidL D1 : Int) hp hL.hb
  rw [ipJ_N] at j0 j1
  have hT : ∀ now : Int, 0 ≤ now ∧ now ≤ 1000 → isTm now := fun now h => by unfold isTm; omega
  have hlate : ∀ a, forC [cxtL p n] a ((n : Int) - 1 + 1) = none := fun _ => by rw [Int.sub_add_cancel]; exact forC_late
  have h1k : [cxtL p n].length ≤ 1000 := by show 1 ≤ 1000; decide
  have hT1 := hT ((n : Int) - 1) (by omega)
  have hT2 := hT ((n : Int) - 1 + 1) (by omega)
  have cA := fun b hb => k_encL p n b ((n : Int) - 1) hL hb (by omega) (by omega)
  have cB := fun b hb => k_plnL p n b [] ((n : Int) - 1) hL hb hT1 .nil (Nat.zero_le _) (fun _ => rfl)
  have cC := fun b hb => k_decL p n b ((n : Int) - 1 + 32) hL hb (by omega) (by omega)
  have cF := fun b hb => k_plnL p n b [cxtL p n] ((n : Int) - 1 + 1) hL hb hT2 (vcxL hL) h1k hlate
  have cP := fun (b : List UInt8) (hb : b.length ≤ 20) => k_pkSame (pktL p b) (Nat.le_trans hb (by decide))
  repeat' (first | with_reducible apply True.intro | ((apply Wr.eq (lensI (p := p) (b := b) (by omega))); (conv => whnf)) | ((apply Bif.tt (beq_self_eq_true _)); (conv => whnf)) | ((with_reducible apply GiveN.mk [0]); (conv => whnf)) | ((apply Elem.mk _ rfl); (conv => whnf)) | ((apply Same.mk rfl); (conv => whnf)) | ((first | ((with_reducible apply Nm.mk); focus ((try simp only [lns, beN_len, ipB_len]); exact rfl)) | ((with_reducible apply Wr.i64); focus omega) | ((with_reducible apply Need.mk); focus first | (simp only [lns, beN_len, ipB_len]; omega) | exact CleanP.lst rfl (fun _ => rfl) | kernel_rfl) | (apply CallN.le (cE); focus ((repeat' (first | (with_reducible apply ArgLe.nil) | (exact ArgLe.nil) | (exact ArgLe.rfl) | (exact ArgLe.fs) | (exact True.intro) | (apply And.intro) | (apply Wk.arg; repeat' (first | (exact Wk.rfl) | (exact Wk.nilS) | (exact Wk.tag) | (apply Wk.cons) | (apply Wk.lits) | (exact WkL.nil) | (apply WkL.cons) | fail)) | fail)); done)) | (apply CallN.mk (cD)) | (apply CallN.le (cS); focus ((repeat' (first | (with_reducible apply ArgLe.nil) | (exact ArgLe.nil) | (exact ArgLe.rfl) | (exact ArgLe.fs) | (exact True.intro) | (apply And.intro) | (apply Wk.arg; repeat' (first | (exact Wk.rfl) | (exact Wk.nilS) | (exact Wk.tag) | (apply Wk.cons) | (apply Wk.lits) | (exact WkL.nil) | (apply WkL.cons) | fail)) | fail)); done)) | (apply CallN.mk (c0)) | (apply CallN.mk (c1)) | (apply CallN.mk (r0)) | (apply CallN.mk (r1)) | (apply CallN.mk (j0)) | (apply CallN.mk (j1)) | (refine CallN.ex (k_Bytes t _ 20 hk1 hlt (by decide)) ?_; rintro _ _ ⟨b, k2, rfl, rfl, hb20, hk2⟩) | (apply CallN.mk (cA b (by omega))) | (apply CallN.le (cB b (by omega)); focus ((repeat' (first | (with_reducible apply ArgLe.nil) | (exact ArgLe.nil) | (exact ArgLe.rfl) | (exact ArgLe.fs) | (exact True.intro) | (apply And.intro) | (apply Wk.arg; repeat' (first | (exact Wk.rfl) | (exact Wk.nilS) | (exact Wk.tag) | (apply Wk.cons) | (apply Wk.lits) | (exact WkL.nil) | (apply WkL.cons) | fail)) | fail)); done)) | (apply CallN.mk (cC b (by omega))) | (apply CallN.mk (cF b (by omega))) | (apply CallN.mk (k_sane)) | (apply CallN.le (cP b (by omega)); focus ((repeat' (first | (with_reducible apply ArgLe.nil) | (exact ArgLe.nil) | (exact ArgLe.rfl) | (exact ArgLe.fs) | (exact True.intro) | (apply And.intro) | (apply Wk.arg; repeat' (first | (exact Wk.rfl) | (exact Wk.nilS) | (exact Wk.tag) | (apply Wk.cons) | (apply Wk.lits) | (exact WkL.nil) | (apply WkL.cons) | fail)) | fail)); done)) | (apply CallN.le (k_bSame (plnL p b) .no .no (plnL_le (by omega))); focus ((repeat' (first | (with_reducible apply ArgLe.nil) | (exact ArgLe.nil) | (exact ArgLe.rfl) | (exact ArgLe.fs) | (exact True.intro) | (apply And.intro) | (apply Wk.arg; repeat' (first | (exact Wk.rfl) | (exact Wk.nilS) | (exact Wk.tag) | (apply Wk.cons) | (apply Wk.lits) | (exact WkL.nil) | (apply WkL.cons) | fail)) | fail)); done)) | (with_reducible first | apply Bif.T | apply Bif.F) | ((with_reducible apply Bif.bne) <;> intro h <;> (try simp only [lns, beN_len, ipB_len] at h) <;> (try (exfalso; omega))) | (with_reducible apply Frz.l)) <;> conv => whnf) | fail)
end Go.Fw

/- What comes in: numbers. -/
namespace Go.Fw
set_option maxRecDepth 4000
open Go.Proofs
theorem shp_int {t d : Nat} {s : SV} (ht : tt t = .int .i64) (h : Shp Tryz.prog tt (d + 1) t s) : ∃ n, s = int n ∧ -9223372036854775808 ≤ n ∧ n ≤ 9223372036854775807 := by
  simp only [Shp, ht] at h
  obtain ⟨n, rfl, hn⟩ := h
  exact ⟨n, rfl, bounds_i64 hn⟩
theorem shp_ints {d : Nat} {s : SV} (h : Shp Tryz.prog tt (d + 2) 22 s) : ∃ l, s = .fs .no 1 (ints l) ∧ l.length ≤ maxLen := by
  obtain ⟨rows, rfl, hl, h⟩ := h
  obtain ⟨l, rfl, _⟩ := rows_of int (fun _ => True) fun r hr => let ⟨n, h1, _⟩ := shp_int (d := d) rfl (h 3 Tryz.underlying22 r hr); ⟨n, h1, trivial⟩
  exact ⟨l, rfl, by simpa using hl⟩
theorem shp_u16 {t d : Nat} {s : SV} (ht : tt t = .int .u16) (h : Shp Tryz.prog tt (d + 1) t s) : ∃ n, s = .v (.int .u16 n) ∧ 0 ≤ n ∧ n ≤ 65535 := by
  simp only [Shp, ht] at h
  obtain ⟨n, rfl, hn⟩ := h
  refine ⟨n, rfl, ?_⟩
  simp [Lit.wf, IntKind.min, IntKind.max, IntKind.signed, IntKind.bits] at hn
  omega
end Go.Fw
