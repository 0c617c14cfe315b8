/- The sanity check's packet: contexts that are none; the forms of its addresses. -/
import Derived.Test.YtlkhjalnnciocaaGreatTopW
namespace Go.Fw
open Go.Proofs
set_option maxHeartbeats 8000000
set_option maxRecDepth 8000
def ctx0V : SV := .agg [int 0, pfxV pfx0, bool false, int 0]
theorem k_vTime (t : Int) : Con Tryz.prog 144 [int t] [] (bool (decide (isTm t))) [] := by
  refine spec_of_run ttok mixed (T0 := 5) (ts := [.tmp 2]) 9 rfl rfl rfl rfl (by simp) rfl ?_
  conv => whnf
  repeat' (first | ((first | (with_reducible first | apply Bif.T | apply Bif.F) | ((with_reducible apply Bif.dec) <;> intro h <;> (try simp only [lns] at h)) | (with_reducible apply Frz.l)) <;> conv => whnf) | fail)
  all_goals (apply Same.bool (by simp; omega); (conv => whnf); repeat' (first | with_reducible apply True.intro | ((with_reducible apply Frz.l) <;> conv => whnf) | fail))
theorem k_cValid0 : Con Tryz.prog 77 [nilV] [] (bool true) [] := by
  refine spec_of_run ttok mixed (T0 := 1074791405) (ts := [.tmp 2]) 34 rfl rfl rfl rfl (by simp) rfl ?_
  conv => whnf
  repeat' (first | ((with_reducible apply Frz.l) <;> conv => whnf) | fail)
  refine LoopN.unr 1 ttok mixed (T0 := 1074791405) ?_
  conv => whnf
  repeat' (first | with_reducible apply True.intro | ((first | ((with_reducible apply Bif.dec) <;> intro h <;> (try simp only [lns] at h) <;> (try (exfalso; omega))) | (apply Same.bool; focus (with_reducible rfl)) | (with_reducible apply Frz.l)) <;> conv => whnf) | fail)
theorem k_ForC0 (a : IP) : Con Tryz.prog 193 [nilV, ipV a, int 0] [] (.tup [ctx0V, bool false]) [] := by
  have ct := k_vTime 0
  rw [decide_eq_true (by decide)] at ct
  refine spec_of_run ttok mixed (T0 := 4505798714067927) (ts := [.cell 6 101, .tmp 7]) 57 rfl rfl rfl rfl (by simp) rfl ?_
  conv => whnf
  repeat' (first | ((first | (apply CallN.mk (k_cValid0)) | (apply CallN.mk (ct)) | (with_reducible first | apply Bif.T | apply Bif.F) | (with_reducible apply Bif.not) | (with_reducible apply Frz.l)) <;> conv => whnf) | fail)
  refine LoopN.unr 1 ttok mixed (T0 := 4505798714067927) ?_
  conv => whnf
  repeat' (first | with_reducible apply True.intro | ((apply Same.mk rfl); (conv => whnf)) | ((first | ((with_reducible apply Bif.dec) <;> intro h <;> (try simp only [lns] at h) <;> (try (exfalso; omega))) | (with_reducible apply Frz.l)) <;> conv => whnf) | fail)
theorem k_linkLocal : Con Tryz.prog 192 [] [] (pfxV llP) [] := by
  refine spec_of_run ttok mixed (T0 := 1) (ts := [.cell 0 70]) 3 rfl rfl rfl rfl (by simp) rfl ?_
  conv => whnf
  repeat' (first | with_reducible apply True.intro | ((apply Same.mk rfl); (conv => whnf)) | ((with_reducible apply Frz.l) <;> conv => whnf) | fail)
theorem ip_beq (a b : IP) : (a.1 == b.1) = decide (a = b) := by
  rw [Bool.eq_iff_iff, beq_iff_eq, decide_eq_true_eq]
  exact ⟨ip_ext, fun h => by rw [h]⟩
theorem k_within (p : Pfx) (a : IP) (v : Nat) (hp : vPfx p = true) : Con Tryz.prog 190 [pfxV p, .pb 0 [], .pb 1 []] [.cells (q64 (v : Int)), .cells (ipV a)] (bool (decide (p.bits ≤ 64 ∧ ipN p.ip v = a))) [.cells (q64 (v : Int)), .cells (ipV a)] := by
  have c := k_aJoin p v hp
  by_cases hb : p.bits ≤ 64
  · rw [if_pos hb] at c
    refine spec_of_run ttok mixed (T0 := 127) (ts := [.tmp 4]) 19 rfl rfl rfl rfl (by simp) rfl ?_
    conv => whnf
    repeat' (first | with_reducible apply True.intro | ((apply Same.bool (by rw [ip_beq, Bool.eq_iff_iff, decide_eq_true_eq, decide_eq_true_eq]; exact ⟨fun h => ⟨hb, h⟩, fun h => h.2⟩)); (conv => whnf)) | ((first | (apply CallN.mk (c)) | (with_reducible apply Bif.T) | (with_reducible apply Same.rfl) | (with_reducible apply Frz.l)) <;> conv => whnf) | fail)
  · rw [if_neg hb] at c
    refine spec_of_run ttok mixed (T0 := 127) (ts := [.tmp 4]) 19 rfl rfl rfl rfl (by simp) rfl ?_
    conv => whnf
    repeat' (first | with_reducible apply True.intro | ((apply Same.bool (by symm; rw [decide_eq_false_iff_not]; exact fun h => hb h.1)); (conv => whnf)) | ((first | (apply CallN.mk (c)) | (with_reducible apply Bif.F) | (with_reducible apply Same.rfl) | (with_reducible apply Frz.l)) <;> conv => whnf) | fail)
/-- The link-local address of a device. -/
def llA (e : Nat) : IP := ipN llP.ip (iidL e)
def fm3V : SV := .agg [bool false, int 0, int 3, nilV]
theorem k_choose3 : Con Tryz.prog 195 [int 3, nilV, .pb 0 [], .pb 1 []] [.cells (bool true), .cells ctx0V] fm3V [.cells (bool true), .cells ctx0V] := by
  refine spec_of_run ttok mixed (T0 := 207) (ts := [.cell 6 249]) 16 rfl rfl rfl rfl (by simp) rfl ?_
  conv => whnf
  repeat' (first | with_reducible apply True.intro | ((apply Same.mk rfl); (conv => whnf)) | ((first | (with_reducible apply Bif.T) | (with_reducible apply Frz.l)) <;> conv => whnf) | fail)
theorem llA_ok : ∀ e ∈ [D0, D1], loN (llA e) = iidL e ∧ (llA e).1 ≠ List.replicate 16 0 ∧ gt (llA e).1 0 ≠ 255 := by decide +kernel
theorem k_uniLL (e : Nat) (s : Bool) (he : e ∈ [D0, D1]) : Con Tryz.prog 149 [ipV (llA e), lnkV e, bool s, nilV, int 0] [] fm3V [] := by
  obtain ⟨h1, h2, h3⟩ := llA_ok e he
  have he2 : e ≤ 18446744073709551615 := by
    simp only [List.mem_cons, List.not_mem_nil, or_false] at he
    rcases he with rfl | rfl <;> decide
  have cs := k_aSplit (llA e)
  rw [h1] at cs
  have cw := k_within llP (llA e) (iidL e) llP_v
  rw [decide_eq_true (⟨by decide, rfl⟩ : llP.bits ≤ 64 ∧ ipN llP.ip (iidL e) = llA e)] at cw
  have ci := k_aIID e he2
  have hz : ((llA e).1 == List.replicate 16 0) = false := by rw [beq_eq_false_iff_ne]; exact h2
  generalize llA e = A at *
  generalize iidL e = v at *
  cases s
  all_goals
    refine spec_of_run ttok mixed (T0 := 9709185632895178773623935) (ts := [.cell 10 249]) 91 rfl rfl rfl rfl (by simp) rfl ?_
    conv => whnf
    repeat' (first | with_reducible apply True.intro | ((apply Same.mk rfl); (conv => whnf)) | ((first | (apply CallN.mk (cs)) | (apply CallN.mk (k_ForC0 _)) | (apply CallN.mk (k_linkLocal)) | (apply CallN.mk (cw)) | (apply CallN.mk (ci)) | (apply CallN.mk (k_choose3)) | (with_reducible first | apply Bif.T | apply Bif.F) | ((with_reducible apply Bif.beq) <;> intro h <;> (try simp only [lns] at h) <;> (try first | (exfalso; omega) | (exact absurd h h2))) | (with_reducible apply Bif.not) | (with_reducible apply Frz.l)) <;> conv => whnf) | fail)
    done
end Go.Fw
