/- Makers of prefixes, destinations, distances. -/
import Derived.Test.YtmblmljcjmmlgaaMakA
namespace Go.Fw
set_option maxRecDepth 4000
open Go.Proofs
set_option maxHeartbeats 4000000
theorem Elem.intL {rows : List SV} {i : Nat} {K : SV → Prop} (l : List Int) (h : rows = ints l) (hi : i < l.length) (k : K (int (gt l i))) : Elem rows i K := by
  subst h; exact Elem.mk _ (by show (l.map int)[i]? = _; simp [gt_eq hi, hi]) k
theorem cutB_idem_all : ∀ (x : Fin 256) (k : Fin 9), cutB (cutB (x.1 : Int) (k.1 : Int)) (k.1 : Int) = cutB (x.1 : Int) (k.1 : Int) := by decide +kernel
theorem cutB_idem {x k : Int} (hx : 0 ≤ x ∧ x ≤ 255) (hk : 0 ≤ k ∧ k ≤ 8) : cutB (cutB x k) k = cutB x k := by
  obtain ⟨y, rfl⟩ := fin_ex (n := 256) (x := x) (by omega)
  obtain ⟨z, rfl⟩ := fin_ex (n := 9) (x := k) (by omega)
  exact cutB_idem_all y z
theorem vPfx_mask (a : IP) (b : Int) : vPfx (maskP a b) = true := by
  rw [vPfx, decide_eq_true_eq]
  refine ⟨by show 0 ≤ min (max b 0) 128; omega, by show min (max b 0) 128 ≤ 128; omega, ip_ext ?_⟩
  show maskL (maskL a.1 (min (max b 0) 128)) (min (max b 0) 128) = maskL a.1 (min (max b 0) 128)
  apply ext_gt (by simp [maskL_len])
  intro i hi
  rw [maskL_len] at hi
  rw [gt_maskL hi, gt_maskL hi, cutB_idem (byte_gt hi) (keepN_range _ _)]
theorem vPfx_zero : vPfx pfx0 = true := by decide +kernel
def TapePfx (l : List Int) (r : SV) (hp' : List OB) : Prop := ∃ (p : Pfx) (k' : Int), r = pfxV p ∧ hp' = [.cells (tape l k')] ∧ vPfx p = true ∧ 0 ≤ k'
def TapeDst (l : List Int) (r : SV) (hp' : List OB) : Prop := ∃ (t : Dst) (k' : Int), r = dstV t ∧ hp' = [.cells (tape l k')] ∧ vDst t = true ∧ 0 ≤ k'
theorem Wr.any16 {x : Int} {K : Int → Prop} (h : K (IntKind.wrap .u16 x)) : Wr .u16 x K := ⟨h⟩
/-- One of the few sequence numbers near 0. -/
def nearS (x : Int) : Prop := (0 ≤ x ∧ x ≤ 3) ∨ (65534 ≤ x ∧ x ≤ 65535)
theorem k_world_Seq (l : List Int) (k : Int) (hk : 0 ≤ k) (hl : l.length ≤ 400) :
    ∃ r hp', (∃ (x k' : Int), r = .v (.int .u16 x) ∧ hp' = [.cells (tape l k')] ∧ nearS x ∧ 0 ≤ k') ∧ Con Try.prog 45 [.pb 0 []] [.cells (tape l k)] r hp' := by
  refine spec_of_runR ttok mixed (T0 := 5) (ts := [.tmp 2]) 7 rfl rfl rfl rfl (by simp) rfl ?_
  conv => whnf
  repeat' (first | ((with_reducible apply Wr.any16); (conv => whnf)) | ((first | ((with_reducible apply Wr.i64); focus omega) | (refine CallN.ex (k_tape_Next l _ _ (by omega) hl (by omega)) ?_; rintro _ _ ⟨x, k', rfl, rfl, h1, h2, h3⟩) | (with_reducible apply Frz.l)) <;> conv => whnf) | fail)
  (apply Ex2.mk (.v (.int .u16 _)) ([.cells (tape l _)])); (focus ((conv => whnf); repeat' (first | with_reducible apply True.intro | ((first | (with_reducible apply Same.rfl) | (with_reducible apply Frz.l)) <;> conv => whnf) | fail))); exact ⟨_, _, rfl, rfl, by rw [nearS, wrap16]; omega, by omega⟩
theorem k_world_Cost (l : List Int) (k : Int) (hk : 0 ≤ k) (hl : l.length ≤ 400) :
    ∃ r hp', TapeInt l 0 65535 r hp' ∧ Con Try.prog 24 [.pb 0 []] [.cells (tape l k)] r hp' := by
  refine spec_of_runR ttok mixed (T0 := 565) (ts := [.tmp 2]) 18 rfl rfl rfl rfl (by simp) rfl ?_
  conv => whnf
  repeat' (first | ((first | ((with_reducible apply Wr.i64); focus omega) | (refine CallN.ex (k_tape_Next l _ _ (by omega) hl (by omega)) ?_; rintro _ _ ⟨x, k', rfl, rfl, h1, h2, h3⟩) | ((with_reducible apply Bif.beq) <;> intro h <;> (try simp only [lns] at h)) | (with_reducible apply Frz.l)) <;> conv => whnf) | fail)
  all_goals ((apply Ex2.mk (.v (.int .i64 _)) ([.cells (tape l _)])); (focus ((conv => whnf); repeat' (first | with_reducible apply True.intro | ((first | (with_reducible apply Same.rfl) | (with_reducible apply Frz.l)) <;> conv => whnf) | fail))); exact ⟨_, _, rfl, rfl, by omega, by omega, by omega⟩)
def disOK (d : Dis) : Prop := nearS d.seq ∧ 0 ≤ d.metric ∧ d.metric < 65535
end Go.Fw
