/- The reference's Components. -/
import Derived.Test.YtkmcmhohelgjfaaOraU
namespace Go.Fw
set_option maxRecDepth 4000
open Go.Proofs
set_option maxHeartbeats 4000000
structure CR (m : List (List Int)) (c d : List Int) (r i k : Nat) : Prop where
  len : d.length = m.length
  lo : ∀ j, j < m.length → gt c j ≤ gt d j
  hi : ∀ j, j < m.length → gt d j ≤ j
  old : ∀ j, j < m.length → ∀ s, s ≤ r → DI m (gt c j).toNat s j → gt d j = gt c j
  new : ∀ j, j < i → ∀ s, s ≤ r + 1 → DI m (gt c j).toNat s j → gt d j = gt c j
  now : ∀ j, j < k → lnk m i j → ∀ s, s ≤ r → DI m (gt c j).toNat s j → gt d i ≤ gt c j
theorem CR.start {m : List (List Int)} {c d : List Int} (hc : Comp m c) (hl : d.length = m.length) (h : ∀ j, j < m.length → gt d j = (j : Int)) : CR m c d 0 0 0 where
  len := hl
  lo j hj := by rw [h j hj]; exact (hc.lo j hj).2
  hi j hj := by rw [h j hj]; exact Int.le_refl _
  old j hj s hs hd := by
    have e : s = 0 := by omega
    subst e
    rw [h j hj]
    have h2 := hc.lo j hj
    have h3 : ∀ {r a b : Nat}, CN m r a b → r = 0 → a = b := fun h e => by cases h with
      | refl => rfl
      | step => omega
    have := h3 hd.1 rfl
    omega
  new := none_lt
  now := none_lt
theorem CR.skip {m : List (List Int)} {c d : List Int} {r i k : Nat} (s : CR m c d r i k) (h : ¬ lnk m i k) : CR m c d r i (k + 1) :=
  ⟨s.len, s.lo, s.hi, s.old, s.new, step_lt s.now fun hl => absurd hl h⟩
theorem CR.step {m : List (List Int)} {c d : List Int} {r i k : Nat} (s : CR m c d r i k) (hc : Comp m c) (hi : i < m.length) (hk : k < m.length) (h : lnk m i k) : CR m c (d.set i (min (gt d i) (gt d k))) r i (k + 1) := by
  have hg : ∀ j, gt (d.set i (min (gt d i) (gt d k))) j = if j = i then min (gt d i) (gt d k) else gt d j := fun j => gt_set (by rw [s.len]; exact hi)
  have e := hc.link i k hi hk h
  have l1 := s.lo i hi
  have l2 := s.lo k hk
  refine ⟨by simp [s.len], fun j hj => ?_, fun j hj => ?_, fun j hj t ht hd => ?_, fun j hj t ht hd => ?_, step_lt (fun j hj hl t ht hd => ?_) fun hl t ht hd => ?_⟩
  · rw [hg]; split
    · rename_i x; subst x; omega
    · exact s.lo j hj
  · rw [hg]; split
    · rename_i x; subst x; have := s.hi j hi; omega
    · exact s.hi j hj
  · rw [hg]; split
    · rename_i x; subst x; have := s.old j hj t ht hd; omega
    · exact s.old j hj t ht hd
  · rw [hg]; split
    · rename_i x; subst x; have := s.new j hj t ht hd; omega
    · exact s.new j hj t ht hd
  · rw [hg, if_pos rfl]; have := s.now j hj hl t ht hd; omega
  · rw [hg, if_pos rfl]; have := s.old k hk t ht hd; omega
theorem CR.row {m : List (List Int)} {c d : List Int} {r i : Nat} (s : CR m c d r i m.length) (hc : Comp m c) (hi : i < m.length) : CR m c d r (i + 1) 0 :=
  ⟨s.len, s.lo, s.hi, s.old, step_lt s.new fun t ht hd => by
    rcases Nat.lt_or_ge r t with h | h
    · have e : t = r + 1 := by omega
      subst e
      obtain ⟨k, hk, hl, hdk⟩ := hd.next
      have e2 := hc.link i k hi hk hl
      rw [e2] at hdk
      have := s.now k hk hl r (Nat.le_refl _) hdk
      have := s.lo i hi
      omega
    · exact s.old i hi t h hd, none_lt⟩
theorem CR.round {m : List (List Int)} {c d : List Int} {r : Nat} (s : CR m c d r m.length 0) : CR m c d (r + 1) 0 0 :=
  ⟨s.len, s.lo, s.hi, fun j hj => s.new j hj, none_lt, none_lt⟩
theorem CR.fin {m : List (List Int)} {c d : List Int} (s : CR m c d m.length 0 0) (hc : Comp m c) : d = c :=
  ext_gt (by rw [s.len, hc.len]) fun i hi => by
    rw [s.len] at hi
    obtain ⟨r, hd⟩ := DI.ex (hc.con i hi)
    exact s.old i hi r (by have := hd.top; omega) hd
theorem k_refComponents_bad (M : List (Tg × List Int)) (t : Tg) (hv : validT (rowsM M) = false) :
    Con Try.prog 35 [.fs t 1 (mat M)] [] (.v (.slice none 0 0)) [] := by
  refine spec_of_run ttok mixed (T0 := 18088389215485) (ts := [.tmp 2]) 60 rfl rfl rfl rfl (by simp) rfl ?_
  conv => whnf
  repeat' (first | with_reducible apply True.intro | ((with_reducible apply Bif.ff hv); conv => whnf) | ((first | (apply CallN.mk (k_refValid M t)) | (with_reducible apply Bif.not) | (with_reducible apply Same.rfl) | (with_reducible apply Frz.l)) <;> conv => whnf) | fail)
theorem k_refComponents (M : List (Tg × List Int)) (t : Tg) (c : List Int) (hv : validT (rowsM M) = true) (hc : Comp (rowsM M) c) :
    Con Try.prog 35 [.fs t 1 (mat M)] [] (.ov 1 0 0 c.length) [.arr none 1 (ints c)] := by
  have hM := mat_len M
  have hr : (rowsM M).length = M.length := by simp [rowsM]
  have h12 : 1 ≤ M.length ∧ M.length ≤ 12 := by have := validT_n hv; omega
  refine spec_of_run ttok mixed (T0 := 18088389215485) (ts := [.tmp 2]) 60 rfl rfl rfl rfl (by simp) rfl ?_
  conv => whnf
  repeat' (first | ((with_reducible apply Bif.tt hv); conv => whnf) | ((first | (with_reducible apply Nm.rep _ (int_mk _)) | ((with_reducible apply Nm.mk); focus ((try simp only [lns, mat_len, mat_take]); exact rfl)) | ((with_reducible apply Need.mk); focus (unfold roomOK; simp only [lns, mat_len, mat_take]; omega)) | (apply CallN.mk (k_refValid M t)) | (with_reducible apply Bif.not) | (with_reducible apply Frz.l)) <;> conv => whnf) | fail)
  refine loop_keep ttok mixed (T0 := 18088389215485) [0, 3, 15] (ι := {p : Nat × List Int // p.1 ≤ M.length ∧ p.2.length = M.length ∧ ∀ j, j < p.1 → gt p.2 j = (j : Int)})
    (fun p => [(16, int (p.1.1 : Int))]) (fun p => [.arr (some M.length) 1 (ints p.1.2)]) (fun p => M.length - p.1.1) ⟨(0, List.replicate M.length 0), by omega, by simp, none_lt⟩ ?_
  conv => whnf
  repeat' (first | ((first | (with_reducible apply Same.rfl) | (apply Same.int; focus rfl) | (with_reducible apply Frz.l)) <;> conv => whnf) | fail)
  rintro ⟨⟨k, d⟩, hk, hd, hall⟩
  dsimp only at hk hd hall ⊢
  conv => whnf
  repeat' (first | ((first | (with_reducible apply Nm.set _ (rfl)) | ((with_reducible apply Nm.mk); focus ((try simp only [lns, mat_len, mat_take]); exact rfl)) | ((with_reducible apply Wr.i64); focus omega) | ((with_reducible apply Need.mk); focus omega) | ((with_reducible apply Elem.lst); focus omega) | ((with_reducible apply Bif.dec) <;> intro h <;> (try simp only [lns, mat_len, mat_take] at h)) | (with_reducible apply Frz.l)) <;> conv => whnf) | fail)
  · (refine ⟨⟨(k + 1, d.set k (k : Int)), by omega, by simp [hd], step_lt (fun j hj => by rw [gt_set (by omega), hall j hj, if_neg (by omega)]) (by rw [gt_set (by omega)]; simp)⟩, ?_⟩; (try dsimp only); conv => whnf); repeat' (first | with_reducible apply True.intro | ((first | ((with_reducible apply Need.mk); focus omega) | (with_reducible apply Same.rfl) | (apply Same.int; focus rfl) | (with_reducible apply Turn.l) | (with_reducible apply Frz.l)) <;> conv => whnf) | fail)
  have e1 : k = M.length := by omega
  subst e1
  refine loop_keep ttok mixed (T0 := 18088389215485) [0, 3] (ι := {p : Nat × List Int // p.1 ≤ M.length ∧ CR (rowsM M) c p.2 p.1 0 0})
    (fun p => [(5, int (p.1.1 : Int))]) (fun p => [.arr (some M.length) 1 (ints p.1.2)]) (fun p => M.length - p.1.1) ⟨(0, d), by omega, CR.start hc (by show d.length = _; omega) (by rw [hr]; exact hall)⟩ ?_
  conv => whnf
  repeat' (first | ((first | (with_reducible apply Same.rfl) | (apply Same.int; focus rfl) | (with_reducible apply Frz.l)) <;> conv => whnf) | fail)
  clear hall hk hd
  rintro ⟨⟨r, d⟩, hrl, s⟩
  dsimp only at hrl s ⊢
  conv => whnf
  repeat' (first | ((first | ((with_reducible apply Nm.mk); focus ((try simp only [lns, mat_len, mat_take]); exact rfl)) | ((with_reducible apply Bif.dec) <;> intro h <;> (try simp only [lns, mat_len, mat_take] at h)) | (with_reducible apply Same.rfl) | (with_reducible apply Frz.l)) <;> conv => whnf) | fail)
  · refine loop_keep ttok mixed (T0 := 18088389215485) [0, 3, 5, 31] (ι := {p : Nat × List Int // p.1 ≤ M.length ∧ CR (rowsM M) c p.2 r p.1 0})
      (fun p => [(32, int (p.1.1 : Int))]) (fun p => [.arr (some M.length) 1 (ints p.1.2)]) (fun p => M.length - p.1.1) ⟨(0, d), by omega, s⟩ ?_
    conv => whnf
    repeat' (first | ((first | (with_reducible apply Same.rfl) | (apply Same.int; focus rfl) | (with_reducible apply Frz.l)) <;> conv => whnf) | fail)
    rintro ⟨⟨i, d⟩, hil, s⟩
    dsimp only at hil s ⊢
    conv => whnf
    repeat' (first | ((first | ((with_reducible apply Nm.mk); focus ((try simp only [lns, mat_len, mat_take]); exact rfl)) | ((with_reducible apply Wr.i64); focus omega) | ((with_reducible apply Bif.dec) <;> intro h <;> (try simp only [lns, mat_len, mat_take] at h)) | (with_reducible apply Frz.l)) <;> conv => whnf) | fail)
    · refine loop_keep ttok mixed (T0 := 18088389215485) [0, 3, 5, 6, 31, 32, 36] (ι := {p : Nat × List Int // p.1 ≤ M.length ∧ CR (rowsM M) c p.2 r i p.1})
        (fun p => [(37, int (p.1.1 : Int))]) (fun p => [.arr (some M.length) 1 (ints p.1.2)]) (fun p => M.length - p.1.1) ⟨(0, d), by omega, s⟩ ?_
      conv => whnf
      repeat' (first | ((first | (with_reducible apply Same.rfl) | (apply Same.int; focus rfl) | (with_reducible apply Frz.l)) <;> conv => whnf) | fail)
      rintro ⟨⟨k, d⟩, hkl, s⟩
      dsimp only at hkl s ⊢
      have ld := s.len
      rw [hr] at ld
      conv => whnf
      repeat' (first | ((first | (with_reducible apply Nm.set _ (int_mk _)) | ((with_reducible apply Nm.mk); focus ((try simp only [lns, mat_len, mat_take]); exact rfl)) | ((with_reducible apply Wr.i64); focus omega) | ((with_reducible apply Need.mk); focus first | omega | kernel_rfl) | ((with_reducible apply Elem.lst); focus omega) | (apply CallN.mk (k_refCostN M t i k hv (by omega) (by omega))) | ((with_reducible apply Bif.dec) <;> intro h <;> (try simp only [lns, mat_len, mat_take] at h)) | (with_reducible apply Frz.l)) <;> conv => whnf) | fail)
      · (refine ⟨⟨(k + 1, _), by omega, s.step hc (by omega) (by omega) h⟩, ?_⟩; (try dsimp only); conv => whnf); repeat' (first | with_reducible apply True.intro | ((first | ((with_reducible apply Need.mk); focus omega) | (with_reducible apply Same.rfl) | (apply Same.int; focus rfl) | (with_reducible apply Turn.l) | (with_reducible apply Frz.l)) <;> conv => whnf) | fail)
      · (refine ⟨⟨(k + 1, d), by omega, s.skip h⟩, ?_⟩; (try dsimp only); conv => whnf); repeat' (first | with_reducible apply True.intro | ((first | ((with_reducible apply Need.mk); focus omega) | (with_reducible apply Same.rfl) | (apply Same.int; focus rfl) | (with_reducible apply Turn.l) | (with_reducible apply Frz.l)) <;> conv => whnf) | fail)
      · have e2 : k = (rowsM M).length := by omega
        subst e2
        (refine ⟨⟨(i + 1, d), by omega, s.row hc (by omega)⟩, ?_⟩; (try dsimp only); conv => whnf); repeat' (first | with_reducible apply True.intro | ((first | ((with_reducible apply Need.mk); focus omega) | (with_reducible apply Same.rfl) | (apply Same.int; focus rfl) | (with_reducible apply Turn.l) | (with_reducible apply Frz.l)) <;> conv => whnf) | fail)
    · have e2 : i = (rowsM M).length := by omega
      subst e2
      (refine ⟨⟨(r + 1, d), by omega, s.round⟩, ?_⟩; (try dsimp only); conv => whnf); repeat' (first | with_reducible apply True.intro | ((first | ((with_reducible apply Need.mk); focus omega) | (with_reducible apply Same.rfl) | (apply Same.int; focus rfl) | (with_reducible apply Turn.l) | (with_reducible apply Frz.l)) <;> conv => whnf) | fail)
  · have e2 : r = (rowsM M).length := by omega
    subst e2
    have := s.fin hc
    subst this
    have := s.len
    repeat' (first | with_reducible apply True.intro | ((first | (with_reducible apply Same.rfl) | ((with_reducible apply Same.mk); focus omega) | (with_reducible apply Cut.l) | (with_reducible apply Frz.l)) <;> conv => whnf) | fail)
end Go.Fw
