/- oracle.Distances: the walk. -/
import Derived.Test.YtkmcmhohelgjfaaOraL
namespace Go.Fw
set_option maxRecDepth 4000
open Go.Proofs
set_option maxHeartbeats 4000000
theorem Dij.start {m : List (List Int)} {to : Nat} {d : List Int} (hto : to < m.length) (hl : d.length = m.length) (h : ∀ j, j < m.length → gt d j = 65535) : Dij m to (d.set to 0) (List.replicate m.length false) where
  ld := by simp [hl]
  lD := by simp
  range i hi := by
    have := h i hi
    rw [gt_set (by omega)]; split <;> omega
  zero := by rw [gt_set (by omega)]; simp
  rel i k hi hk h1 := by simp [gt, hk] at h1
  ord i j hi hj h1 := by simp [gt, hi] at h1
  par i hi h0 h1 := by
    have := h i hi
    rw [gt_set (by omega), if_neg h0] at h1; omega
structure Near (n : Nat) (d : List Int) (D : List Bool) (i : Nat) (near : Int) : Prop where
  le : i ≤ n
  none : near < 0 → near = -1 ∧ ∀ j, j < i → gt D j = true ∨ gt d j ≥ 65535
  some : 0 ≤ near → near < n ∧ gt D near.toNat = false ∧ gt d near.toNat < 65535 ∧ ∀ j, j < i → gt D j = false → gt d near.toNat ≤ gt d j
theorem Near.skip {n i : Nat} {d : List Int} {D : List Bool} {near : Int} (a : Near n d D i near) (hi : i < n) (h : gt D i = true ∨ gt d i ≥ 65535 ∨ (0 ≤ near ∧ gt d near.toNat ≤ gt d i)) : Near n d D (i + 1) near where
  le := hi
  none h0 := ⟨(a.none h0).1, fun j hj => by
    rcases Nat.lt_or_ge j i with h1 | h1
    · exact (a.none h0).2 j h1
    · rw [show j = i by omega]; rcases h with h | h | h
      · exact .inl h
      · exact .inr h
      · omega⟩
  some h0 := ⟨(a.some h0).1, (a.some h0).2.1, (a.some h0).2.2.1, fun j hj hD => by
    rcases Nat.lt_or_ge j i with h1 | h1
    · exact (a.some h0).2.2.2 j h1 hD
    · rw [show j = i by omega] at hD ⊢
      have := (a.some h0).2.2.1
      rcases h with h | h | h
      · rw [h] at hD; cases hD
      · omega
      · exact h.2⟩
theorem Near.take {n i : Nat} {d : List Int} {D : List Bool} {near : Int} (a : Near n d D i near) (hi : i < n) (h1 : gt D i = false) (h2 : gt d i < 65535) (h3 : near < 0 ∨ gt d i < gt d near.toNat) : Near n d D (i + 1) (i : Int) where
  le := hi
  none h0 := by omega
  some _ := ⟨by omega, by simpa using h1, by simpa using h2, fun j hj hD => by
    rw [Int.toNat_natCast]
    rcases Nat.lt_or_ge j i with h4 | h4
    · rcases h3 with h3 | h3
      · rcases (a.none h3).2 j h4 with h5 | h5
        · rw [h5] at hD; cases hD
        · omega
      · rcases Int.lt_or_le near 0 with h6 | h6
        · rcases (a.none h6).2 j h4 with h5 | h5
          · rw [h5] at hD; cases hD
          · omega
        · have := (a.some h6).2.2.2 j h4 hD; omega
    · rw [show j = i by omega]; exact Int.le_refl _⟩
theorem relax_len {m : List (List Int)} {d : List Int} {D : List Bool} {near n : Nat} : (relax m d D near n).length = m.length := by simp [relax]
theorem relax_zero {m : List (List Int)} {d : List Int} {D : List Bool} {near : Nat} (h : d.length = m.length) : d = relax m d D near 0 :=
  ext_gt (by rw [relax_len, h]) fun i hi => by rw [relax_gd (by omega)]; simp
theorem relax_skip {m : List (List Int)} {d : List Int} {D : List Bool} {near n : Nat} (h : gt D n = true) : relax m d D near n = relax m d D near (n + 1) :=
  ext_gt (by rw [relax_len, relax_len]) fun i hi => by
    rw [relax_len] at hi
    rw [relax_gd hi, relax_gd hi]
    by_cases e : i = n
    · subst e; simp [h]
    · have : i < n ↔ i < n + 1 := by omega
      simp only [this]
theorem relax_step {m : List (List Int)} {d : List Int} {D : List Bool} {near n : Nat} (hn : n < m.length) (h : gt D n = false) (hf : gt D near = true) (hm : near < m.length) :
    (relax m d D near n).set n (min (gt (relax m d D near n) n) (addM (costT m n near) (gt (relax m d D near n) near))) = relax m d D near (n + 1) :=
  ext_gt (by rw [List.length_set, relax_len, relax_len]) fun i hi => by
    rw [List.length_set, relax_len] at hi
    rw [gt_set (by rw [relax_len]; exact hn), relax_gd hi, relax_gd hi, relax_gd hn]
    have e2 : gt (relax m d D near n) near = gt d near := by
      rw [relax_gd hm]; simp [hf]
    by_cases e : i = n
    · subst e; simp [h, e2]
    · have : i < n ↔ i < n + 1 := by omega
      simp only [this, if_neg e]
theorem k_Distances0 (M : List (Tg × List Int)) (t : Tg) (to : Nat) (hv : validT (rowsM M) = true) (hto : to < M.length) :
    ∃ r hp', (∃ d, Bell (rowsM M) to d ∧ r = .ov 1 0 0 d.length ∧ hp' = [.arr none 1 (ints d)]) ∧ Con Try.prog 18 [.fs t 1 (mat M), int (to : Int)] [] r hp' := by
  have hM := mat_len M
  have hr : (rowsM M).length = M.length := by simp [rowsM]
  have h12 : 1 ≤ M.length ∧ M.length ≤ 12 := by have := validT_n hv; omega
  have hnin : decide (inN (to : Int) M.length) = true := by simp [inN]; exact hto
  refine spec_of_runR ttok mixed (T0 := 158993815336883632807612403) (ts := [.tmp 4]) 106 rfl rfl rfl rfl (by simp) rfl ?_
  conv => whnf
  repeat' (first | ((with_reducible refine Bif.tt hv ?_); conv => whnf) | ((with_reducible refine Bif.tt hnin ?_); conv => whnf) | ((first | (with_reducible first | apply Nm.rep _ (int_mk _) | apply Nm.rep _ (bool_mk _)) | ((with_reducible apply Nm.mk); focus ((try simp only [lns, mat_len]); exact rfl)) | ((with_reducible apply Need.mk); focus (unfold roomOK; simp only [lns, mat_len]; omega)) | (apply CallN.mk (k_Valid M t)) | (apply CallN.mk (k_numbered (to : Int) M.length)) | (with_reducible apply Bif.F) | (with_reducible apply Bif.not) | (with_reducible apply Frz.l)) <;> conv => whnf) | fail)
  refine loop_keep ttok mixed (T0 := 158993815336883632807612403) [0, 1, 5, 6, 7, 29] (ι := {p : Nat × List Int // p.1 ≤ M.length ∧ p.2.length = M.length ∧ ∀ j, j < p.1 → gt p.2 j = 65535})
    (fun p => [(30, int (p.1.1 : Int))]) (fun p => [.arr (some M.length) 1 (ints p.1.2), .arr (some M.length) 1 (lst bool (List.replicate M.length false))]) (fun p => M.length - p.1.1) ⟨(0, List.replicate M.length 0), by omega, by simp, fun j hj => by omega⟩ ?_
  conv => whnf
  repeat' (first | ((first | (with_reducible apply Same.rfl) | (apply Same.int; focus rfl) | (with_reducible apply Frz.l)) <;> conv => whnf) | fail)
  rintro ⟨⟨k, d⟩, hk, hd, hall⟩
  dsimp only at hk hd hall ⊢
  conv => whnf
  repeat' (first | ((first | (with_reducible apply Nm.set _ (int_mk _)) | ((with_reducible apply Nm.mk); focus ((try simp only [lns, mat_len]); exact rfl)) | ((with_reducible apply Wr.i64); focus omega) | ((with_reducible apply Need.mk); focus omega) | ((with_reducible apply Elem.lst); focus omega) | ((with_reducible apply Bif.dec) <;> intro h <;> (try simp only [lns, mat_len] at h)) | (with_reducible apply Frz.l)) <;> conv => whnf) | fail)
  · refine ⟨⟨(k + 1, d.set k 65535), by omega, by simp [hd], fun j hj => ?_⟩, ?_⟩
    · rw [gt_set (by omega)]; split
      · rfl
      · exact hall j (by omega)
    conv => whnf
    repeat' (first | with_reducible apply True.intro | ((first | ((with_reducible apply Need.mk); focus (simp only [lns, mat_len]; omega)) | (with_reducible apply Same.rfl) | (apply Same.int; focus rfl) | (with_reducible apply Turn.l) | (with_reducible apply Frz.l)) <;> conv => whnf) | fail)
  have e : k = M.length := by omega
  subst e
  refine loop_keep ttok mixed (T0 := 158993815336883632807612403) [0, 5, 6, 7] (ι := {p : List Int × List Bool // Dij (rowsM M) to p.1 p.2})
    (fun p => []) (fun p => [.arr (some M.length) 1 (ints p.1.1), .arr (some M.length) 1 (lst bool p.1.2)]) (fun p => p.1.2.count false) ⟨(d.set to 0, List.replicate M.length false), by rw [← hr]; exact Dij.start (by omega) (by omega) (by rw [hr]; exact hall)⟩ ?_
  conv => whnf
  repeat' (first | ((first | (with_reducible apply Same.rfl) | (with_reducible apply Frz.l)) <;> conv => whnf) | fail)
  clear hall hk hd d
  rintro ⟨⟨d, D⟩, j⟩
  dsimp only at j ⊢
  have ld := j.ld
  have lD := j.lD
  rw [hr] at ld lD
  conv => whnf
  repeat' (first | ((with_reducible apply Frz.l) <;> conv => whnf) | fail)
  refine loop_keep ttok mixed (T0 := 158993815336883632807612403) [0, 5, 6, 7, 40] (ι := {p : Nat × Int // Near M.length d D p.1 p.2})
    (fun p => [(9, int p.1.2), (41, int (p.1.1 : Int))]) (fun p => [.arr (some M.length) 1 (ints d), .arr (some M.length) 1 (lst bool D)]) (fun p => M.length - p.1.1)
    ⟨(0, -1), by omega, fun _ => ⟨rfl, fun j hj => by omega⟩, fun h => by omega⟩ ?_
  conv => whnf
  repeat' (first | ((first | (with_reducible apply Same.rfl) | (apply Same.int; focus rfl) | (with_reducible apply Frz.l)) <;> conv => whnf) | fail)
  rintro ⟨⟨i, near⟩, a⟩
  dsimp only at a ⊢
  have hi := a.le
  have hs1 := fun h => (a.some h).1
  conv => whnf
  rcases Int.lt_or_le near 0 with hneg | hpos
  · repeat' (first | ((first | ((with_reducible apply Nm.mk); focus ((try simp only [lns, mat_len]); exact rfl)) | ((with_reducible apply Wr.i64); focus omega) | ((with_reducible apply Need.mk); focus first | omega | kernel_rfl) | ((with_reducible apply Elem.lst); focus omega) | (with_reducible first | apply Bif.T | apply Bif.F) | ((with_reducible apply Bif.dec) <;> intro h <;> (try simp only [lns, mat_len] at h) <;> (try (exfalso; omega))) | (with_reducible apply Bif.not) | ((with_reducible apply Bif.mk) <;> intro h) | (with_reducible apply Frz.l)) <;> conv => whnf) | fail)
    · (refine ⟨⟨(i + 1, near), a.skip (by omega) (.inl h)⟩, ?_⟩; (try dsimp only); conv => whnf); repeat' (first | with_reducible apply True.intro | ((first | ((with_reducible apply Need.mk); focus omega) | (with_reducible apply Same.rfl) | (apply Same.int; focus rfl) | (with_reducible apply Turn.l) | (with_reducible apply Frz.l)) <;> conv => whnf) | fail)
    · (refine ⟨⟨(i + 1, (i : Int)), a.take (by omega) (by assumption) (by assumption) (.inl hneg)⟩, ?_⟩; (try dsimp only); conv => whnf); repeat' (first | with_reducible apply True.intro | ((first | ((with_reducible apply Need.mk); focus omega) | (with_reducible apply Same.rfl) | (apply Same.int; focus rfl) | (with_reducible apply Turn.l) | (with_reducible apply Frz.l)) <;> conv => whnf) | fail)
    · (refine ⟨⟨(i + 1, near), a.skip (by omega) (.inr (.inl (by omega)))⟩, ?_⟩; (try dsimp only); conv => whnf); repeat' (first | with_reducible apply True.intro | ((first | ((with_reducible apply Need.mk); focus omega) | (with_reducible apply Same.rfl) | (apply Same.int; focus rfl) | (with_reducible apply Turn.l) | (with_reducible apply Frz.l)) <;> conv => whnf) | fail)
    · refine ⟨_, _, ⟨d, j.done fun i2 h2 => ?_, rfl, rfl⟩, ?_⟩
      · rw [hr] at h2
        have e : i = M.length := by omega
        subst e
        have := j.range i2 (by omega)
        rcases (a.none hneg).2 i2 h2 with h3 | h3
        · exact .inl h3
        · exact .inr (by omega)
      conv => whnf
      repeat' (first | with_reducible apply True.intro | ((first | (with_reducible apply Same.rfl) | ((with_reducible apply Same.mk); focus omega) | (with_reducible apply Cut.l) | (with_reducible apply Frz.l)) <;> conv => whnf) | fail)
  · obtain ⟨nr, rfl⟩ : ∃ nr : Nat, near = (nr : Int) := ⟨near.toNat, by omega⟩
    repeat' (first | ((first | (with_reducible apply Nm.set _ (bool_mk _)) | ((with_reducible apply Nm.mk); focus ((try simp only [lns, mat_len]); exact rfl)) | ((with_reducible apply Wr.i64); focus omega) | ((with_reducible apply Need.mk); focus first | omega | kernel_rfl) | ((with_reducible apply Elem.lst); focus omega) | (with_reducible first | apply Bif.T | apply Bif.F) | ((with_reducible apply Bif.dec) <;> intro h <;> (try simp only [lns, mat_len] at h) <;> (try (exfalso; omega))) | (with_reducible apply Bif.not) | ((with_reducible apply Bif.mk) <;> intro h) | (with_reducible apply Frz.l)) <;> conv => whnf) | fail)
    · (refine ⟨⟨(i + 1, (nr : Int)), a.skip (by omega) (.inl h)⟩, ?_⟩; (try dsimp only); conv => whnf); repeat' (first | with_reducible apply True.intro | ((first | ((with_reducible apply Need.mk); focus omega) | (with_reducible apply Same.rfl) | (apply Same.int; focus rfl) | (with_reducible apply Turn.l) | (with_reducible apply Frz.l)) <;> conv => whnf) | fail)
    · (refine ⟨⟨(i + 1, (i : Int)), a.take (by omega) (by assumption) (by assumption) (.inr h)⟩, ?_⟩; (try dsimp only); conv => whnf); repeat' (first | with_reducible apply True.intro | ((first | ((with_reducible apply Need.mk); focus omega) | (with_reducible apply Same.rfl) | (apply Same.int; focus rfl) | (with_reducible apply Turn.l) | (with_reducible apply Frz.l)) <;> conv => whnf) | fail)
    · (refine ⟨⟨(i + 1, (nr : Int)), a.skip (by omega) (.inr (.inr ⟨hpos, by rw [Int.toNat_natCast]; omega⟩))⟩, ?_⟩; (try dsimp only); conv => whnf); repeat' (first | with_reducible apply True.intro | ((first | ((with_reducible apply Need.mk); focus omega) | (with_reducible apply Same.rfl) | (apply Same.int; focus rfl) | (with_reducible apply Turn.l) | (with_reducible apply Frz.l)) <;> conv => whnf) | fail)
    · (refine ⟨⟨(i + 1, (nr : Int)), a.skip (by omega) (.inr (.inl (by omega)))⟩, ?_⟩; (try dsimp only); conv => whnf); repeat' (first | with_reducible apply True.intro | ((first | ((with_reducible apply Need.mk); focus omega) | (with_reducible apply Same.rfl) | (apply Same.int; focus rfl) | (with_reducible apply Turn.l) | (with_reducible apply Frz.l)) <;> conv => whnf) | fail)
    have e : i = M.length := by omega
    subst e
    obtain ⟨b1, b2, b3, b4⟩ := a.some hpos
    rw [Int.toNat_natCast] at b2 b3 b4
    have hn := j.next (near := nr) (by omega) (by omega) b2 (fun i2 h2 h3 => b4 i2 (by omega) h3)
    refine loop_keep ttok mixed (T0 := 158993815336883632807612403) [0, 5, 6, 7, 9, 79] (ι := {i : Nat // i ≤ M.length})
      (fun i => [(80, int (i.1 : Int))]) (fun i => [.arr (some M.length) 1 (ints (relax (rowsM M) d (D.set nr true) nr i.1)), .arr (some M.length) 1 (lst bool (D.set nr true))]) (fun i => M.length - i.1) ⟨0, by omega⟩ ?_
    conv => whnf
    repeat' (first | (refine Same.lst (relax_zero (by omega)) ?_; first | (with_reducible apply True.intro) | (conv => whnf)) | ((first | (with_reducible apply Same.rfl) | (apply Same.int; focus rfl) | (with_reducible apply Frz.l)) <;> conv => whnf) | fail)
    rintro ⟨i, hi2⟩
    have lr : ∀ n, (relax (rowsM M) d (D.set nr true) nr n).length = M.length := fun n => by rw [relax_len, hr]
    have lr2 := lr i
    have lD2 : (D.set nr true).length = M.length := by simp [lD]
    have hf : gt (D.set nr true) nr = true := by rw [gt_set (by omega)]; simp
    dsimp only
    conv => whnf
    repeat' (first | ((first | (with_reducible apply Nm.set _ (int_mk _)) | ((with_reducible apply Nm.mk); focus ((try simp only [lns, mat_len]); exact rfl)) | ((with_reducible apply Wr.i64); focus omega) | ((with_reducible apply Need.mk); focus first | omega | kernel_rfl) | ((with_reducible apply Elem.lst); focus omega) | (apply CallN.mk (k_cost M t _ nr hv (by omega) (by omega))) | (apply CallN.mk (k_metricAdd _ _)) | ((with_reducible apply Bif.dec) <;> intro h <;> (try simp only [lns, mat_len] at h)) | (with_reducible apply Bif.not) | ((with_reducible apply Bif.mk) <;> intro h) | (with_reducible apply Frz.l)) <;> conv => whnf) | fail)
    · (refine ⟨⟨i + 1, by omega⟩, ?_⟩; (try dsimp only); conv => whnf); repeat' (first | with_reducible apply True.intro | (refine Same.lst (relax_skip (by assumption)) ?_; first | (with_reducible apply True.intro) | (conv => whnf)) | ((first | ((with_reducible apply Need.mk); focus omega) | (with_reducible apply Same.rfl) | (apply Same.int; focus rfl) | (with_reducible apply Turn.l) | (with_reducible apply Frz.l)) <;> conv => whnf) | fail)
    · (refine ⟨⟨i + 1, by omega⟩, ?_⟩; (try dsimp only); conv => whnf); repeat' (first | with_reducible apply True.intro | (refine Same.lst (relax_step (by omega) (by assumption) hf (by omega)) ?_; first | (with_reducible apply True.intro) | (conv => whnf)) | ((first | ((with_reducible apply Need.mk); focus omega) | (with_reducible apply Same.rfl) | (apply Same.int; focus rfl) | (with_reducible apply Turn.l) | (with_reducible apply Frz.l)) <;> conv => whnf) | fail)
    · have e : i = M.length := by omega
      subst e
      rw [← hr]
      (refine ⟨⟨(relax (rowsM M) d (D.set nr true) nr (rowsM M).length, D.set nr true), hn⟩, ?_⟩; (try dsimp only); conv => whnf); repeat' (first | ((first | (with_reducible apply Same.rfl) | (with_reducible apply Turn.l) | (with_reducible apply Frz.l)) <;> conv => whnf) | fail)
      exact Need.mk (count_dn (k := nr) (by omega) (by rw [← gt_eq]; exact b2)) trivial
end Go.Fw
