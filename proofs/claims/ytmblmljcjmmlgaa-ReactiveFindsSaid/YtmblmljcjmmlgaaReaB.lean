/- Reactive: what is valid. -/
import Derived.Test.YtmblmljcjmmlgaaReaA
namespace Go.Fw
open Go.Proofs
set_option maxHeartbeats 4000000
set_option maxRecDepth 4000
theorem ownOK_iff {p : Pth} : ownOK p = true ↔ okM p.own.metric = true ∧ p.own.metric ≠ 65535 ∧ 0 ≤ p.upto ∧ p.upto ≤ 1099511627776 := by
  simp [ownOK, isT]
theorem pathOK_iff {s : Int} {p : Pth} : pathOK s p = true ↔ (p.to ≠ 0 ∧ p.to ≠ s) ∧ p.nx ≠ 0 ∧ okM p.own.metric = true ∧ p.own.metric ≠ 65535 ∧ 0 ≤ p.upto ∧ p.upto ≤ 1099511627776 := by
  simp only [pathOK, Bool.and_eq_true, decide_eq_true_eq, bne_iff_ne, ownOK_iff]
theorem seenOK_iff {s : Int} {p : Pth} : seenOK s p = true ↔ (p.to ≠ 0 ∧ p.to ≠ s) ∧ p.nx = 0 ∧ p.brk = false ∧ okM p.own.metric = true ∧ p.own.metric ≠ 65535 ∧ 0 ≤ p.upto ∧ p.upto ≤ 1099511627776 := by
  simp only [seenOK, Bool.and_eq_true, decide_eq_true_eq, beq_iff_eq, Bool.not_eq_true', ownOK_iff]
theorem dscOK_iff {s : Int} {d : Dsc} : dscOK s d = true ↔ (d.to ≠ 0 ∧ d.to ≠ s) ∧ (1 ≤ d.left ∧ d.left ≤ 3) ∧ 0 ≤ d.again ∧ d.again ≤ 1099511627776 := by
  simp only [dscOK, Bool.and_eq_true, decide_eq_true_eq, isT]
/-- Keys are no negative numbers; the lists are no longer than a machine can hold. -/
structure ReaOK (r : Rea) : Prop where
  p : ∀ x ∈ r.paths, 0 ≤ x.to
  d : ∀ x ∈ r.srch, 0 ≤ x.to
  s : ∀ x ∈ r.seen, 0 ≤ x.to
  lp : r.paths.length ≤ 1000000
  ld : r.srch.length ≤ 1000000
  ls : r.seen.length ≤ 1000000
section
variable {α : Type} [Inhabited α] {κ : α → Int}
def allQ (q : α → Bool) (l : List α) : Bool := decide (∀ i, i < l.length → q (gt l i) = true)
theorem okI_eq {n : Nat} {q o : α → Bool} {s : Int} {l : List α} (h0 : ∀ x ∈ l, 0 ≤ κ x) (ho : ∀ x, o x = true ↔ (κ x ≠ 0 ∧ κ x ≠ s) ∧ q x = true) :
    okL n o cmpI κ l = (decide (l.length ≤ n) && (ascI κ s l && allQ q l)) := by
  rw [Bool.eq_iff_iff]
  simp only [okL, ascI, allQ, Bool.and_eq_true, decide_eq_true_eq, cmpI_lo, ho]
  constructor
  · rintro ⟨h1, h2⟩
    refine ⟨h1, fun i hi => ?_, fun i hi => (h2 i hi).1.2⟩
    have h3 := h2 i hi
    have h4 := h0 _ (gt_mem hi)
    refine ⟨?_, h3.1.1.2⟩
    split
    · have := h3.1.1.1; omega
    · exact h3.2 (by omega)
  · rintro ⟨h1, h2, h3⟩
    refine ⟨h1, fun i hi => ⟨⟨⟨?_, (h2 i hi).2⟩, h3 i hi⟩, fun hp => ?_⟩⟩
    · have h4 := (h2 i hi).1
      split at h4
      · omega
      · have := h0 _ (gt_mem (l := l) (i := i - 1) (by omega)); omega
    · have h4 := (h2 i hi).1
      rwa [if_neg (by omega)] at h4
theorem allQ_ff {q : α → Bool} {l : List α} {k : Nat} (hk : k < l.length) (h : ¬ q (gt l k) = true) : allQ q l = false := decide_eq_false fun g => h (g k hk)
theorem allQ_tt {q : α → Bool} {l : List α} {k : Nat} (hk : l.length ≤ k) (h : ∀ i, i < k → q (gt l i) = true) : allQ q l = true := decide_eq_true fun i hi => h i (by omega)
end
def qP (p : Pth) : Bool := p.nx != 0 && ownOK p
def qS (p : Pth) : Bool := p.nx == 0 && (!p.brk && ownOK p)
def qD (d : Dsc) : Bool := decide (1 ≤ d.left ∧ d.left ≤ 3) && decide (isT d.again)
theorem validX_eq {r : Rea} (h : ReaOK r) : validX r = (r.self != 0 && ((decide (r.paths.length ≤ 64) && (ascI Pth.to r.self r.paths && allQ qP r.paths)) && ((decide (r.srch.length ≤ 64) && (ascI Dsc.to r.self r.srch && allQ qD r.srch)) && (decide (r.seen.length ≤ 64) && (ascI Pth.to r.self r.seen && allQ qS r.seen))))) := by
  rw [validX, okPs, okDs, okSs, okI_eq (q := qP) (s := r.self) h.p (fun x => by simp [pathOK, qP]), okI_eq (q := qD) (s := r.self) h.d (fun x => by simp [dscOK, qD]), okI_eq (q := qS) (s := r.self) h.s (fun x => by simp [seenOK, qS])]
theorem k_xValid (r : Rea) (hr : ReaOK r) : Con Try.prog 37 [reaF r] [] (bool (validX r)) [] := by
  obtain ⟨-, -, -, n1, n2, n3⟩ := id hr
  rw [validX_eq hr]
  have c1 := k_asc_Pth r.paths r.self (by omega)
  have c2 := k_asc_Dsc r.srch r.self (by omega)
  have c3 := k_asc_Pth r.seen r.self (by omega)
  refine spec_of_run ttok mixed (T0 := 324556001353543471027936313737559) (ts := [.tmp 2]) 110 rfl rfl rfl rfl (by simp) rfl ?_
  conv => whnf
  by_cases a1 : r.self ≠ 0 ∧ r.paths.length ≤ 64 ∧ r.srch.length ≤ 64 ∧ r.seen.length ≤ 64
  · obtain ⟨a1, a2, a3, a4⟩ := a1
    by_cases b1 : ascI Pth.to r.self r.paths = true ∧ ascI Dsc.to r.self r.srch = true ∧ ascI Pth.to r.self r.seen = true
    · obtain ⟨b1, b2, b3⟩ := b1
      have e : (r.self != 0) = true := by simp [a1]
      simp only [e, a2, a3, a4, b1, b2, b3, decide_true, Bool.true_and]
      rw [b1] at c1
      rw [b2] at c2
      rw [b3] at c3
      repeat' (first | ((first | ((with_reducible apply Nm.mk); focus ((try simp only [lns]); exact rfl)) | (apply CallN.mk (c1)) | (apply CallN.mk (c2)) | (apply CallN.mk (c3)) | (with_reducible first | apply Bif.T | apply Bif.F) | ((with_reducible first | apply Bif.dec | apply Bif.beq) <;> intro h <;> (try simp only [lns] at h) <;> (try (exfalso; omega))) | (with_reducible apply Bif.not) | (with_reducible apply Frz.l)) <;> conv => whnf) | fail)
      refine loop_keep ttok mixed (T0 := 324556001353543471027936313737559) [1, 53, 54] (ι := {k : Nat // k ≤ r.paths.length ∧ ∀ i, i < k → qP (gt r.paths i) = true})
        (fun k => [(55, int (k.1 : Int))]) (fun _ => [.cells (reaF r)]) (fun k => r.paths.length - k.1) ⟨0, by omega, none_lt⟩ ?_
      conv => whnf
      repeat' (first | ((first | (with_reducible apply Same.rfl) | (apply Same.int; focus rfl) | (with_reducible apply Frz.l)) <;> conv => whnf) | fail)
      rintro ⟨k, hk, he⟩
      dsimp only
      conv => whnf
      by_cases hkl : k < r.paths.length
      · by_cases hq : qP (gt r.paths k) = true
        · obtain ⟨q1, q2⟩ := (Bool.and_eq_true _ _).mp hq
          have q1 := (bne_iff_ne ..).1 q1
          have cO := k_validOwn (gt r.paths k)
          rw [q2] at cO
          repeat' (first | ((first | ((with_reducible apply Nm.mk); focus ((try simp only [lns]); exact rfl)) | ((with_reducible apply Wr.i64); focus omega) | ((with_reducible apply Need.mk); focus (simp only [lns]; omega)) | ((with_reducible apply Elem.lst); focus omega) | (apply CallN.mk (cO)) | (with_reducible first | apply Bif.T | apply Bif.F) | ((with_reducible first | apply Bif.dec | apply Bif.beq) <;> intro h <;> (try simp only [lns] at h) <;> (try (exfalso; omega))) | (with_reducible apply Bif.not) | (with_reducible apply Frz.l)) <;> conv => whnf) | fail)
          (refine ⟨⟨k + 1, by omega, step_lt he hq⟩, ?_⟩; (try dsimp only); conv => whnf); repeat' (first | with_reducible apply True.intro | ((first | ((with_reducible apply Need.mk); focus omega) | (with_reducible apply Same.rfl) | (apply Same.int; focus rfl) | (with_reducible apply Turn.l) | (with_reducible apply Frz.l)) <;> conv => whnf) | fail)
        · rw [allQ_ff hkl hq]
          repeat' (first | with_reducible apply True.intro | ((first | ((with_reducible apply Nm.mk); focus ((try simp only [lns]); exact rfl)) | ((with_reducible apply Need.mk); focus (simp only [lns]; omega)) | ((with_reducible apply Elem.lst); focus omega) | (apply CallN.mk (k_validOwn _)) | (with_reducible first | apply Bif.T | apply Bif.F) | ((with_reducible first | apply Bif.dec | apply Bif.beq) <;> intro h <;> (try simp only [lns] at h) <;> (try (exfalso; omega))) | (with_reducible apply Bif.not) | ((with_reducible apply Bif.mk) <;> intro h <;> (try ((refine absurd ?_ hq); (focus (simp_all [qP]; done))))) | (apply Same.rfl) | (with_reducible apply Frz.l)) <;> conv => whnf) | fail)
      rw [allQ_tt (by omega) he]
      simp only [Bool.true_and]
      repeat' (first | ((first | ((with_reducible apply Nm.mk); focus ((try simp only [lns]); exact rfl)) | ((with_reducible apply Bif.dec) <;> intro h <;> (try simp only [lns] at h) <;> (try (exfalso; omega))) | (with_reducible apply Frz.l)) <;> conv => whnf) | fail)
      refine loop_keep ttok mixed (T0 := 324556001353543471027936313737559) [1, 69, 70] (ι := {k : Nat // k ≤ r.srch.length ∧ ∀ i, i < k → qD (gt r.srch i) = true})
        (fun k => [(71, int (k.1 : Int))]) (fun _ => [.cells (reaF r)]) (fun k => r.srch.length - k.1) ⟨0, by omega, none_lt⟩ ?_
      conv => whnf
      repeat' (first | ((first | (with_reducible apply Same.rfl) | (apply Same.int; focus rfl) | (with_reducible apply Frz.l)) <;> conv => whnf) | fail)
      rintro ⟨k, hk, he⟩
      dsimp only
      conv => whnf
      by_cases hkl : k < r.srch.length
      · by_cases hq : qD (gt r.srch k) = true
        · obtain ⟨q1, q2⟩ := (Bool.and_eq_true _ _).mp hq
          have q1 := of_decide_eq_true q1
          have cO := k_xisTime (gt r.srch k).again
          rw [show decide (0 ≤ (gt r.srch k).again ∧ (gt r.srch k).again ≤ 1099511627776) = true from q2] at cO
          repeat' (first | ((first | ((with_reducible apply Nm.mk); focus ((try simp only [lns]); exact rfl)) | ((with_reducible apply Wr.i64); focus omega) | ((with_reducible apply Need.mk); focus (simp only [lns]; omega)) | ((with_reducible apply Elem.lst); focus omega) | (apply CallN.mk (cO)) | (with_reducible first | apply Bif.T | apply Bif.F) | ((with_reducible apply Bif.dec) <;> intro h <;> (try simp only [lns] at h) <;> (try (exfalso; omega))) | (with_reducible apply Bif.not) | (with_reducible apply Frz.l)) <;> conv => whnf) | fail)
          (refine ⟨⟨k + 1, by omega, step_lt he hq⟩, ?_⟩; (try dsimp only); conv => whnf); repeat' (first | with_reducible apply True.intro | ((first | ((with_reducible apply Need.mk); focus omega) | (with_reducible apply Same.rfl) | (apply Same.int; focus rfl) | (with_reducible apply Turn.l) | (with_reducible apply Frz.l)) <;> conv => whnf) | fail)
        · rw [allQ_ff hkl hq]
          repeat' (first | with_reducible apply True.intro | ((first | ((with_reducible apply Nm.mk); focus ((try simp only [lns]); exact rfl)) | ((with_reducible apply Need.mk); focus (simp only [lns]; omega)) | ((with_reducible apply Elem.lst); focus omega) | (apply CallN.mk (k_xisTime _)) | (with_reducible first | apply Bif.T | apply Bif.F) | ((with_reducible apply Bif.dec) <;> intro h <;> (try simp only [lns] at h) <;> (try first | (exfalso; omega) | ((refine absurd ?_ hq); (focus (simp_all [qD]; done))))) | (with_reducible apply Bif.not) | (apply Same.rfl) | (with_reducible apply Frz.l)) <;> conv => whnf) | fail)
      rw [allQ_tt (by omega) he]
      simp only [Bool.true_and]
      repeat' (first | ((first | ((with_reducible apply Nm.mk); focus ((try simp only [lns]); exact rfl)) | ((with_reducible apply Bif.dec) <;> intro h <;> (try simp only [lns] at h) <;> (try (exfalso; omega))) | (with_reducible apply Frz.l)) <;> conv => whnf) | fail)
      refine loop_keep ttok mixed (T0 := 324556001353543471027936313737559) [1, 91, 92] (ι := {k : Nat // k ≤ r.seen.length ∧ ∀ i, i < k → qS (gt r.seen i) = true})
        (fun k => [(93, int (k.1 : Int))]) (fun _ => [.cells (reaF r)]) (fun k => r.seen.length - k.1) ⟨0, by omega, none_lt⟩ ?_
      conv => whnf
      repeat' (first | ((first | (with_reducible apply Same.rfl) | (apply Same.int; focus rfl) | (with_reducible apply Frz.l)) <;> conv => whnf) | fail)
      rintro ⟨k, hk, he⟩
      dsimp only
      conv => whnf
      by_cases hkl : k < r.seen.length
      · by_cases hq : qS (gt r.seen k) = true
        · obtain ⟨q1, q2⟩ := (Bool.and_eq_true _ _).mp hq
          obtain ⟨q2, q3⟩ := (Bool.and_eq_true _ _).mp q2
          have q1 := beq_iff_eq.1 q1
          have q2 : (gt r.seen k).brk = false := by simpa using q2
          have cO := k_validOwn (gt r.seen k)
          rw [q3] at cO
          repeat' (first | ((first | ((with_reducible apply Nm.mk); focus ((try simp only [lns]); exact rfl)) | ((with_reducible apply Wr.i64); focus omega) | ((with_reducible apply Need.mk); focus (simp only [lns]; omega)) | ((with_reducible apply Elem.lst); focus omega) | (apply CallN.mk (cO)) | (with_reducible first | apply Bif.T | apply Bif.F) | ((with_reducible first | apply Bif.dec | apply Bif.bne) <;> intro h <;> (try simp only [lns] at h) <;> (try (exfalso; omega))) | (with_reducible apply Bif.not) | ((with_reducible apply Bif.mk) <;> intro h <;> (try (rw [q2] at h; cases h))) | (with_reducible apply Frz.l)) <;> conv => whnf) | fail)
          (refine ⟨⟨k + 1, by omega, step_lt he hq⟩, ?_⟩; (try dsimp only); conv => whnf); repeat' (first | with_reducible apply True.intro | ((first | ((with_reducible apply Need.mk); focus omega) | (with_reducible apply Same.rfl) | (apply Same.int; focus rfl) | (with_reducible apply Turn.l) | (with_reducible apply Frz.l)) <;> conv => whnf) | fail)
        · rw [allQ_ff hkl hq]
          repeat' (first | with_reducible apply True.intro | ((first | ((with_reducible apply Nm.mk); focus ((try simp only [lns]); exact rfl)) | ((with_reducible apply Need.mk); focus (simp only [lns]; omega)) | ((with_reducible apply Elem.lst); focus omega) | (apply CallN.mk (k_validOwn _)) | (with_reducible first | apply Bif.T | apply Bif.F) | ((with_reducible first | apply Bif.dec | apply Bif.bne) <;> intro h <;> (try simp only [lns] at h) <;> (try (exfalso; omega))) | (with_reducible apply Bif.not) | ((with_reducible apply Bif.mk) <;> intro h <;> (try ((refine absurd ?_ hq); (focus (simp_all [qS]; done))))) | (apply Same.bool; focus (with_reducible rfl)) | (with_reducible apply Frz.l)) <;> conv => whnf) | fail)
      rw [allQ_tt (by omega) he]
      repeat' (first | with_reducible apply True.intro | ((first | ((with_reducible apply Bif.dec) <;> intro h <;> (try simp only [lns] at h) <;> (try (exfalso; omega))) | (apply Same.bool; focus (with_reducible rfl)) | (with_reducible apply Frz.l)) <;> conv => whnf) | fail)
    · have e : (r.self != 0 && ((decide (r.paths.length ≤ 64) && (ascI Pth.to r.self r.paths && allQ qP r.paths)) && ((decide (r.srch.length ≤ 64) && (ascI Dsc.to r.self r.srch && allQ qD r.srch)) && (decide (r.seen.length ≤ 64) && (ascI Pth.to r.self r.seen && allQ qS r.seen))))) = false := by
        rw [Bool.eq_false_iff]
        intro h
        simp only [Bool.and_eq_true] at h
        exact b1 ⟨h.2.1.2.1, h.2.2.1.2.1, h.2.2.2.2.1⟩
      rw [e]
      generalize ascI Pth.to r.self r.paths = x at *
      generalize ascI Dsc.to r.self r.srch = y at *
      generalize ascI Pth.to r.self r.seen = z at *
      cases x <;> cases y <;> cases z
      all_goals try (exact absurd ⟨rfl, rfl, rfl⟩ b1)
      all_goals repeat' (first | with_reducible apply True.intro | ((first | ((with_reducible apply Nm.mk); focus ((try simp only [lns]); exact rfl)) | (apply CallN.mk (c1)) | (apply CallN.mk (c2)) | (apply CallN.mk (c3)) | (with_reducible first | apply Bif.T | apply Bif.F) | ((with_reducible first | apply Bif.dec | apply Bif.beq) <;> intro h <;> (try simp only [lns] at h) <;> (try (exfalso; omega))) | (with_reducible apply Bif.not) | (apply Same.bool; focus (with_reducible rfl)) | (with_reducible apply Frz.l)) <;> conv => whnf) | fail)
  · have e : (r.self != 0 && ((decide (r.paths.length ≤ 64) && (ascI Pth.to r.self r.paths && allQ qP r.paths)) && ((decide (r.srch.length ≤ 64) && (ascI Dsc.to r.self r.srch && allQ qD r.srch)) && (decide (r.seen.length ≤ 64) && (ascI Pth.to r.self r.seen && allQ qS r.seen))))) = false := by
      rw [Bool.eq_false_iff]
      intro h
      simp only [Bool.and_eq_true, decide_eq_true_eq, bne_iff_ne] at h
      exact a1 ⟨h.1, h.2.1.1, h.2.2.1.1, h.2.2.2.1⟩
    rw [e]
    repeat' (first | with_reducible apply True.intro | ((first | ((with_reducible apply Nm.mk); focus ((try simp only [lns]); exact rfl)) | (with_reducible first | apply Bif.T | apply Bif.F) | ((with_reducible first | apply Bif.dec | apply Bif.beq) <;> intro h <;> (try simp only [lns] at h) <;> (try (exfalso; omega))) | (apply Same.bool; focus (with_reducible rfl)) | (with_reducible apply Frz.l)) <;> conv => whnf) | fail)
theorem k_validPathsF (l : List Pth) (s : Int) (hl : l.length ≤ 1000000) : Con Try.prog 85 [.fs .no 6 (lst pthV l), .v (.int .u64 s), .v (.bool false)] [] (bool (okPs s l)) [] := by
  refine spec_of_run ttok mixed (T0 := 4723519404374252124615) (ts := [.tmp 6]) 74 rfl rfl rfl rfl (by simp) rfl ?_
  conv => whnf
  repeat' (first | ((first | ((with_reducible apply Nm.mk); focus ((try simp only [lns]); exact rfl)) | ((with_reducible apply Bif.dec) <;> intro h <;> (try simp only [lns] at h)) | (with_reducible apply Frz.l)) <;> conv => whnf) | fail)
  · apply Same.bool (okL_long (by omega))
    conv => whnf
    repeat' (first | with_reducible apply True.intro | ((with_reducible apply Frz.l) <;> conv => whnf) | fail)
  refine loop_keep ttok mixed (T0 := 4723519404374252124615) [0, 1, 2, 12, 13] (ι := {k : Nat // k ≤ l.length ∧ ∀ i, i < k → pathOK s (gt l i) = true ∧ (0 < i → cmpI (gt l (i - 1)).to (gt l i).to < 0)})
    (fun k => [(14, int (k.1 : Int))]) (fun _ => []) (fun k => l.length - k.1) ⟨0, by omega, none_lt⟩ ?_
  conv => whnf
  repeat' (first | ((first | (with_reducible apply Same.rfl) | (apply Same.int; focus rfl) | (with_reducible apply Frz.l)) <;> conv => whnf) | fail)
  rintro ⟨k, hk, he⟩
  dsimp only
  conv => whnf
  by_cases hkl : k < l.length
  · have e1 : ((k : Int) - 1).toNat = k - 1 := by omega
    by_cases hq : pathOK s (gt l k) = true ∧ (0 < k → cmpI (gt l (k - 1)).to (gt l k).to < 0)
    · obtain ⟨⟨q1, q2⟩, q3, q4, q5, q6⟩ := pathOK_iff.1 hq.1
      have g1 : 0 < k → (gt l (k - 1)).to < (gt l k).to := fun h => cmpI_lo.1 (hq.2 h)
      have c1 := k_refseqValid (gt l k).own
      rw [q4] at c1
      repeat' (first | ((first | ((with_reducible apply Nm.mk); focus ((try simp only [lns, e1]); exact rfl)) | ((with_reducible apply Wr.i64); focus omega) | ((with_reducible apply Need.mk); focus first | (simp only [lns, e1]; omega) | kernel_rfl) | ((with_reducible apply Elem.lst); focus omega) | (apply CallN.mk (c1)) | (apply CallN.mk (k_xIsTime _)) | (with_reducible first | apply Bif.T | apply Bif.F) | ((with_reducible first | apply Bif.dec | apply Bif.beq | apply Bif.bne) <;> intro h <;> (try simp only [lns, e1] at h) <;> (try first | (exfalso; omega) | (simp [q3] at h; done))) | (with_reducible apply Bif.not) | (with_reducible apply Frz.l)) <;> conv => whnf) | fail)
      all_goals ((refine ⟨⟨k + 1, by omega, step_lt he hq⟩, ?_⟩; (try dsimp only); conv => whnf); repeat' (first | with_reducible apply True.intro | ((first | ((with_reducible apply Need.mk); focus omega) | (with_reducible apply Same.rfl) | (apply Same.int; focus rfl) | (with_reducible apply Turn.l) | (with_reducible apply Frz.l)) <;> conv => whnf) | fail))
    · rw [show okPs s l = false from (okL_ff hkl hq).symm]
      repeat' (first | with_reducible apply True.intro | ((first | ((with_reducible apply Nm.mk); focus ((try simp only [lns, e1]); exact rfl)) | ((with_reducible apply Wr.i64); focus omega) | ((with_reducible apply Need.mk); focus first | (simp only [lns, e1]; omega) | kernel_rfl) | ((with_reducible apply Elem.lst); focus omega) | (apply CallN.mk (k_refseqValid _)) | (apply CallN.mk (k_xIsTime _)) | (with_reducible first | apply Bif.T | apply Bif.F) | ((with_reducible first | apply Bif.dec | apply Bif.beq | apply Bif.bne) <;> intro h <;> (try simp only [lns, e1] at h) <;> (try first | (exfalso; omega) | ((refine absurd ⟨pathOK_iff.2 ?_, fun _ => cmpI_lo.2 ?_⟩ hq); (focus (simp_all; done)); (focus omega)))) | (with_reducible apply Bif.not) | ((with_reducible apply Bif.mk) <;> intro h) | (apply Same.bool; focus (with_reducible rfl)) | (with_reducible apply Frz.l)) <;> conv => whnf) | fail)
  · repeat' (first | ((first | ((with_reducible apply Bif.dec) <;> intro h <;> (try simp only [lns] at h) <;> (try (exfalso; omega))) | (with_reducible apply Frz.l)) <;> conv => whnf) | fail)
    apply Same.bool (okL_tt (by omega) fun i hi => he i (by omega))
    conv => whnf
    repeat' (first | with_reducible apply True.intro | ((with_reducible apply Frz.l) <;> conv => whnf) | fail)
theorem k_validPathsT (l : List Pth) (s : Int) (hl : l.length ≤ 1000000) : Con Try.prog 85 [.fs .no 6 (lst pthV l), .v (.int .u64 s), .v (.bool true)] [] (bool (okSs s l)) [] := by
  refine spec_of_run ttok mixed (T0 := 4723519404374252124615) (ts := [.tmp 6]) 74 rfl rfl rfl rfl (by simp) rfl ?_
  conv => whnf
  repeat' (first | ((first | ((with_reducible apply Nm.mk); focus ((try simp only [lns]); exact rfl)) | ((with_reducible apply Bif.dec) <;> intro h <;> (try simp only [lns] at h)) | (with_reducible apply Frz.l)) <;> conv => whnf) | fail)
  · apply Same.bool (okL_long (by omega))
    conv => whnf
    repeat' (first | with_reducible apply True.intro | ((with_reducible apply Frz.l) <;> conv => whnf) | fail)
  refine loop_keep ttok mixed (T0 := 4723519404374252124615) [0, 1, 2, 12, 13] (ι := {k : Nat // k ≤ l.length ∧ ∀ i, i < k → seenOK s (gt l i) = true ∧ (0 < i → cmpI (gt l (i - 1)).to (gt l i).to < 0)})
    (fun k => [(14, int (k.1 : Int))]) (fun _ => []) (fun k => l.length - k.1) ⟨0, by omega, none_lt⟩ ?_
  conv => whnf
  repeat' (first | ((first | (with_reducible apply Same.rfl) | (apply Same.int; focus rfl) | (with_reducible apply Frz.l)) <;> conv => whnf) | fail)
  rintro ⟨k, hk, he⟩
  dsimp only
  conv => whnf
  by_cases hkl : k < l.length
  · have e1 : ((k : Int) - 1).toNat = k - 1 := by omega
    by_cases hq : seenOK s (gt l k) = true ∧ (0 < k → cmpI (gt l (k - 1)).to (gt l k).to < 0)
    · obtain ⟨⟨q1, q2⟩, q3, q8, q4, q5, q6⟩ := seenOK_iff.1 hq.1
      have g1 : 0 < k → (gt l (k - 1)).to < (gt l k).to := fun h => cmpI_lo.1 (hq.2 h)
      have c1 := k_refseqValid (gt l k).own
      rw [q4] at c1
      repeat' (first | ((first | ((with_reducible apply Nm.mk); focus ((try simp only [lns, e1]); exact rfl)) | ((with_reducible apply Wr.i64); focus omega) | ((with_reducible apply Need.mk); focus first | (simp only [lns, e1]; omega) | kernel_rfl) | ((with_reducible apply Elem.lst); focus omega) | (apply CallN.mk (c1)) | (apply CallN.mk (k_xIsTime _)) | (with_reducible first | apply Bif.T | apply Bif.F) | ((with_reducible first | apply Bif.dec | apply Bif.beq | apply Bif.bne) <;> intro h <;> (try simp only [lns, e1] at h) <;> (try first | (exfalso; omega) | (simp [q3] at h; done))) | (with_reducible apply Bif.not) | ((with_reducible apply Bif.mk) <;> intro h <;> (try (rw [q8] at h; cases h))) | (with_reducible apply Frz.l)) <;> conv => whnf) | fail)
      all_goals ((refine ⟨⟨k + 1, by omega, step_lt he hq⟩, ?_⟩; (try dsimp only); conv => whnf); repeat' (first | with_reducible apply True.intro | ((first | ((with_reducible apply Need.mk); focus omega) | (with_reducible apply Same.rfl) | (apply Same.int; focus rfl) | (with_reducible apply Turn.l) | (with_reducible apply Frz.l)) <;> conv => whnf) | fail))
    · rw [show okSs s l = false from (okL_ff hkl hq).symm]
      repeat' (first | with_reducible apply True.intro | ((first | ((with_reducible apply Nm.mk); focus ((try simp only [lns, e1]); exact rfl)) | ((with_reducible apply Wr.i64); focus omega) | ((with_reducible apply Need.mk); focus first | (simp only [lns, e1]; omega) | kernel_rfl) | ((with_reducible apply Elem.lst); focus omega) | (apply CallN.mk (k_refseqValid _)) | (apply CallN.mk (k_xIsTime _)) | (with_reducible first | apply Bif.T | apply Bif.F) | ((with_reducible first | apply Bif.dec | apply Bif.beq | apply Bif.bne) <;> intro h <;> (try simp only [lns, e1] at h) <;> (try (exfalso; omega))) | (with_reducible apply Bif.not) | ((with_reducible apply Bif.mk) <;> intro h <;> (try ((refine absurd ⟨seenOK_iff.2 ?_, fun _ => cmpI_lo.2 ?_⟩ hq); (focus (simp_all; done)); (focus omega)))) | (apply Same.bool; focus (with_reducible rfl)) | (with_reducible apply Frz.l)) <;> conv => whnf) | fail)
  · repeat' (first | ((first | ((with_reducible apply Bif.dec) <;> intro h <;> (try simp only [lns] at h) <;> (try (exfalso; omega))) | (with_reducible apply Frz.l)) <;> conv => whnf) | fail)
    apply Same.bool (okL_tt (by omega) fun i hi => he i (by omega))
    conv => whnf
    repeat' (first | with_reducible apply True.intro | ((with_reducible apply Frz.l) <;> conv => whnf) | fail)
theorem k_yValid (r : Rea) (hr : ReaOK r) : Con Try.prog 61 [reaF r] [] (bool (validX r)) [] := by
  obtain ⟨-, -, -, n1, n2, n3⟩ := id hr
  have c1 := k_validPathsF r.paths r.self n1
  have c3 := k_validPathsT r.seen r.self n3
  unfold validX
  refine spec_of_run ttok mixed (T0 := 604462909807347336478751) (ts := [.tmp 2]) 81 rfl rfl rfl rfl (by simp) rfl ?_
  conv => whnf
  by_cases a1 : r.self ≠ 0 ∧ okPs r.self r.paths = true ∧ okSs r.self r.seen = true ∧ r.srch.length ≤ 64
  · obtain ⟨a1, b1, b3, a4⟩ := a1
    have e : (r.self != 0) = true := by simp [a1]
    rw [e, b1, b3]
    rw [b1] at c1
    rw [b3] at c3
    simp only [Bool.true_and, Bool.and_true]
    repeat' (first | ((first | ((with_reducible apply Nm.mk); focus ((try simp only [lns]); exact rfl)) | (apply CallN.mk (c1)) | (apply CallN.mk (c3)) | (with_reducible first | apply Bif.T | apply Bif.F) | ((with_reducible first | apply Bif.dec | apply Bif.beq) <;> intro h <;> (try simp only [lns] at h) <;> (try (exfalso; omega))) | (with_reducible apply Bif.not) | (with_reducible apply Frz.l)) <;> conv => whnf) | fail)
    refine loop_keep ttok mixed (T0 := 604462909807347336478751) [1, 31, 32] (ι := {k : Nat // k ≤ r.srch.length ∧ ∀ i, i < k → dscOK r.self (gt r.srch i) = true ∧ (0 < i → cmpI (gt r.srch (i - 1)).to (gt r.srch i).to < 0)})
      (fun k => [(33, int (k.1 : Int))]) (fun _ => [.cells (reaF r)]) (fun k => r.srch.length - k.1) ⟨0, by omega, none_lt⟩ ?_
    conv => whnf
    repeat' (first | ((first | (with_reducible apply Same.rfl) | (apply Same.int; focus rfl) | (with_reducible apply Frz.l)) <;> conv => whnf) | fail)
    rintro ⟨k, hk, he⟩
    dsimp only
    conv => whnf
    by_cases hkl : k < r.srch.length
    · have e1 : ((k : Int) - 1).toNat = k - 1 := by omega
      by_cases hq : dscOK r.self (gt r.srch k) = true ∧ (0 < k → cmpI (gt r.srch (k - 1)).to (gt r.srch k).to < 0)
      · obtain ⟨⟨q1, q2⟩, q3, q4⟩ := dscOK_iff.1 hq.1
        have g1 : 0 < k → (gt r.srch (k - 1)).to < (gt r.srch k).to := fun h => cmpI_lo.1 (hq.2 h)
        repeat' (first | ((first | ((with_reducible apply Nm.mk); focus ((try simp only [lns, e1]); exact rfl)) | ((with_reducible apply Wr.i64); focus omega) | ((with_reducible apply Need.mk); focus first | (simp only [lns, e1]; omega) | kernel_rfl) | ((with_reducible apply Elem.lst); focus omega) | (apply CallN.mk (k_xIsTime _)) | (with_reducible first | apply Bif.T | apply Bif.F) | ((with_reducible first | apply Bif.dec | apply Bif.beq) <;> intro h <;> (try simp only [lns, e1] at h) <;> (try (exfalso; omega))) | (with_reducible apply Bif.not) | (with_reducible apply Frz.l)) <;> conv => whnf) | fail)
        all_goals ((refine ⟨⟨k + 1, by omega, step_lt he hq⟩, ?_⟩; (try dsimp only); conv => whnf); repeat' (first | with_reducible apply True.intro | ((first | ((with_reducible apply Need.mk); focus omega) | (with_reducible apply Same.rfl) | (apply Same.int; focus rfl) | (with_reducible apply Turn.l) | (with_reducible apply Frz.l)) <;> conv => whnf) | fail))
      · rw [show okDs r.self r.srch = false from (okL_ff hkl hq).symm]
        repeat' (first | with_reducible apply True.intro | ((first | ((with_reducible apply Nm.mk); focus ((try simp only [lns, e1]); exact rfl)) | ((with_reducible apply Wr.i64); focus omega) | ((with_reducible apply Need.mk); focus first | (simp only [lns, e1]; omega) | kernel_rfl) | ((with_reducible apply Elem.lst); focus omega) | (apply CallN.mk (k_xIsTime _)) | (with_reducible first | apply Bif.T | apply Bif.F) | ((with_reducible first | apply Bif.dec | apply Bif.beq) <;> intro h <;> (try simp only [lns, e1] at h) <;> (try first | (exfalso; omega) | ((refine absurd ⟨dscOK_iff.2 ?_, fun _ => cmpI_lo.2 ?_⟩ hq); (focus (simp_all; done)); (focus omega)))) | (with_reducible apply Bif.not) | (apply Same.bool; focus (with_reducible rfl)) | (with_reducible apply Frz.l)) <;> conv => whnf) | fail)
    · repeat' (first | ((first | ((with_reducible apply Bif.dec) <;> intro h <;> (try simp only [lns] at h) <;> (try (exfalso; omega))) | (with_reducible apply Frz.l)) <;> conv => whnf) | fail)
      apply Same.bool (okL_tt (by omega) fun i hi => he i (by omega))
      conv => whnf
      repeat' (first | with_reducible apply True.intro | ((with_reducible apply Frz.l) <;> conv => whnf) | fail)
  · have e : (r.self != 0 && (okPs r.self r.paths && (okDs r.self r.srch && okSs r.self r.seen))) = false := by
      rw [Bool.eq_false_iff]
      intro h
      simp only [Bool.and_eq_true, bne_iff_ne] at h
      exact a1 ⟨h.1, h.2.1, h.2.2.2, okL_len h.2.2.1⟩
    rw [e]
    generalize okPs r.self r.paths = x at *
    generalize okSs r.self r.seen = y at *
    cases x <;> cases y
    all_goals repeat' (first | with_reducible apply True.intro | ((first | ((with_reducible apply Nm.mk); focus ((try simp only [lns]); exact rfl)) | (apply CallN.mk (c1)) | (apply CallN.mk (c3)) | (with_reducible first | apply Bif.T | apply Bif.F) | ((with_reducible first | apply Bif.dec | apply Bif.beq) <;> intro h <;> (try simp only [lns] at h) <;> (try ((refine absurd ⟨?_, rfl, rfl, ?_⟩ a1); (focus assumption); (focus omega)))) | (with_reducible apply Bif.not) | (apply Same.bool; focus (with_reducible rfl)) | (with_reducible apply Frz.l)) <;> conv => whnf) | fail)
end Go.Fw
