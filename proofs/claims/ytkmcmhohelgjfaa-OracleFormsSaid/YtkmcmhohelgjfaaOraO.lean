/- The reference's Distances: rounds of Bellman. -/
import Derived.Test.YtkmcmhohelgjfaaOraN
namespace Go.Fw
set_option maxRecDepth 4000
open Go.Proofs
set_option maxHeartbeats 4000000
theorem Dij.go {m : List (List Int)} {to : Nat} (hto : to < m.length) : ∀ (c : Nat) {d : List Int} {D : List Bool}, Dij m to d D → D.count false ≤ c → ∃ e, Bell m to e := by
  intro c
  induction c with
  | zero =>
    intro d D j hc
    refine ⟨d, j.done fun i hi => .inl ?_⟩
    have h0 : D.count false = 0 := by omega
    rw [List.count_eq_zero] at h0
    have : gt D i ∈ D := gt_mem (by rw [j.lD]; exact hi)
    cases h : gt D i
    · rw [h] at this; exact absurd this h0
    · rfl
  | succ c ih =>
    intro d D j hc
    by_cases hex : ∃ i, i < m.length ∧ gt D i = false ∧ gt d i < 65535
    · obtain ⟨i0, h0⟩ := hex
      have key : ∀ (v : Nat) (i : Nat), i < m.length → gt D i = false → gt d i ≤ v → ∃ near, near < m.length ∧ gt D near = false ∧ ∀ j, j < m.length → gt D j = false → gt d near ≤ gt d j := by
        intro v
        induction v with
        | zero => intro i hi hD hv; exact ⟨i, hi, hD, fun j2 hj _ => by have := (j.range j2 hj).1; omega⟩
        | succ v ihv =>
          intro i hi hD hv
          by_cases h : ∃ i2, i2 < m.length ∧ gt D i2 = false ∧ gt d i2 < gt d i
          · obtain ⟨i2, a, b, cc⟩ := h
            exact ihv i2 a b (by omega)
          · refine ⟨i, hi, hD, fun j2 hj hDj => ?_⟩
            rcases Int.lt_or_le (gt d j2) (gt d i) with h1 | h1
            · exact absurd ⟨j2, hj, hDj, h1⟩ h
            · exact h1
      obtain ⟨near, a, b, hmin⟩ := key (gt d i0).toNat i0 h0.1 h0.2.1 (by omega)
      refine ih (j.next hto a b hmin) ?_
      have hk : near < D.length := by rw [j.lD]; exact a
      have := count_dn hk (by rw [← gt_eq hk]; exact b)
      omega
    · refine ⟨d, j.done fun i hi => ?_⟩
      cases hD : gt D i
      · right
        have := j.range i hi
        rcases Int.lt_or_le (gt d i) 65535 with h | h
        · exact absurd ⟨i, hi, hD, h⟩ hex
        · omega
      · exact .inl rfl
theorem Bell.ex (m : List (List Int)) {to : Nat} (hto : to < m.length) : ∃ e, Bell m to e := by
  have j := Dij.start (m := m) (to := to) (d := List.replicate m.length 65535) hto (by simp) (fun i hi => by rw [gt_rep hi])
  exact j.go hto _ (Nat.le_refl _)
theorem k_Distances (M : List (Tg × List Int)) (t : Tg) (to : Nat) (e : List Int) (hv : validT (rowsM M) = true) (hto : to < M.length) (he : Bell (rowsM M) to e) :
    Con Try.prog 18 [.fs t 1 (mat M), int (to : Int)] [] (.ov 1 0 0 e.length) [.arr none 1 (ints e)] := by
  obtain ⟨r, hp', ⟨d, hd, rfl, rfl⟩, hc⟩ := k_Distances0 M t to hv hto
  rw [← hd.one he]; exact hc
theorem k_Distances_bad (M : List (Tg × List Int)) (t : Tg) (to : Int) (hb : ¬ (validT (rowsM M) = true ∧ inN to M.length)) :
    Con Try.prog 18 [.fs t 1 (mat M), int to] [] (.v (.slice none 0 0)) [] := by
  have hM := mat_len M
  refine spec_of_run ttok mixed (T0 := 158993815336883632807612403) (ts := [.tmp 4]) 106 rfl rfl rfl rfl (by simp) rfl ?_
  conv => whnf
  cases hv : validT (rowsM M)
  · repeat' (first | with_reducible apply True.intro | ((with_reducible apply Bif.ff hv); conv => whnf) | ((first | (apply CallN.mk (k_Valid M t)) | (with_reducible apply Bif.T) | (with_reducible apply Bif.not) | (with_reducible apply Same.rfl) | (with_reducible apply Frz.l)) <;> conv => whnf) | fail)
  · have hn : decide (inN to M.length) = false := decide_eq_false fun h => hb ⟨hv, h⟩
    repeat' (first | with_reducible apply True.intro | ((with_reducible apply Bif.tt hv); conv => whnf) | ((with_reducible apply Bif.ff hn); conv => whnf) | ((first | ((with_reducible apply Nm.mk); focus ((try simp only [lns, mat_len]); exact rfl)) | (apply CallN.mk (k_Valid M t)) | (apply CallN.mk (k_numbered to M.length)) | (with_reducible apply Bif.F) | (with_reducible apply Bif.not) | (with_reducible apply Same.rfl) | (with_reducible apply Frz.l)) <;> conv => whnf) | fail)
theorem k_refDistances_bad (M : List (Tg × List Int)) (t : Tg) (to : Int) (hb : ¬ (validT (rowsM M) = true ∧ inN to M.length)) :
    Con Try.prog 33 [.fs t 1 (mat M), int to] [] (.v (.slice none 0 0)) [] := by
  have hM := mat_len M
  refine spec_of_run ttok mixed (T0 := 2313972799133189107) (ts := [.tmp 4]) 82 rfl rfl rfl rfl (by simp) rfl ?_
  conv => whnf
  cases hv : validT (rowsM M)
  · repeat' (first | with_reducible apply True.intro | ((with_reducible apply Bif.ff hv); conv => whnf) | ((first | (apply CallN.mk (k_refValid M t)) | (with_reducible apply Bif.T) | (with_reducible apply Bif.not) | (with_reducible apply Same.rfl) | (with_reducible apply Frz.l)) <;> conv => whnf) | fail)
  · have hn : ¬ (0 ≤ to ∧ to < M.length) := fun h => hb ⟨hv, h⟩
    repeat' (first | with_reducible apply True.intro | ((with_reducible apply Bif.tt hv); conv => whnf) | ((first | ((with_reducible apply Nm.mk); focus ((try simp only [lns, mat_len]); exact rfl)) | (apply CallN.mk (k_refValid M t)) | (with_reducible first | apply Bif.T | apply Bif.F) | ((with_reducible apply Bif.dec) <;> intro h <;> (try simp only [lns, mat_len] at h) <;> (try (exfalso; omega))) | (with_reducible apply Bif.not) | (with_reducible apply Same.rfl) | (with_reducible apply Frz.l)) <;> conv => whnf) | fail)
/-! ### The rounds -/
theorem countP_lt {p q : Nat → Bool} : ∀ (l : List Nat), (∀ x ∈ l, p x = true → q x = true) → (∃ x ∈ l, q x = true ∧ p x = false) → l.countP p < l.countP q
  | [], _, h => by obtain ⟨x, hx, _⟩ := h; cases hx
  | a :: l, h1, h2 => by
    have h1' : ∀ x ∈ l, p x = true → q x = true := fun x hx => h1 x (List.mem_cons_of_mem _ hx)
    have le : l.countP p ≤ l.countP q := List.countP_mono_left h1'
    rw [List.countP_cons, List.countP_cons]
    obtain ⟨x, hx, hq, hp⟩ := h2
    rcases List.mem_cons.1 hx with rfl | hx
    · simp [hq, hp]; omega
    · have := countP_lt l h1' ⟨x, hx, hq, hp⟩
      have h3 := h1 a (List.mem_cons_self)
      cases hpa : p a <;> cases hqa : q a <;> simp_all <;> omega
def rankE (n : Nat) (e : List Int) (i : Nat) : Nat := (List.range n).countP fun j => decide (gt e j < gt e i)
theorem rank_lt {n : Nat} {e : List Int} {i k : Nat} (hk : k < n) (h : gt e k < gt e i) : rankE n e k < rankE n e i :=
  countP_lt _ (fun x _ hp => by simp only [decide_eq_true_eq] at hp ⊢; omega) ⟨k, List.mem_range.2 hk, by simpa using h, by simp⟩
theorem rank_top {n : Nat} {e : List Int} {i : Nat} (hi : i < n) : rankE n e i < n := by
  have := countP_lt (p := fun j => decide (gt e j < gt e i)) (q := fun _ => true) (List.range n) (fun _ _ _ => rfl) ⟨i, List.mem_range.2 hi, rfl, by simp⟩
  simpa [rankE] using this
theorem Bell.pos {m : List (List Int)} {to : Nat} {e : List Int} (he : Bell m to e) {i : Nat} (hi : i < m.length) (h : i ≠ to) : 1 ≤ gt e i := by
  rcases Int.lt_or_le (gt e i) 65535 with h1 | h1
  · obtain ⟨k, hk, h2⟩ := he.eq i hi h h1
    rw [addM_cost (costT_range m i k) (he.range k hk)] at h2
    have := costT_range m i k; have := he.range k hk
    omega
  · omega
/-- The state within the rounds: i and k are next. -/
structure Rnd (m : List (List Int)) (to : Nat) (e d : List Int) (r i k : Nat) : Prop where
  len : d.length = m.length
  lo : ∀ j, j < m.length → gt e j ≤ gt d j
  hi : ∀ j, j < m.length → gt d j ≤ 65535
  zero : gt d to = 0
  old : ∀ j, j < m.length → gt e j < 65535 → rankE m.length e j ≤ r → gt d j = gt e j
  new : ∀ j, j < i → gt e j < 65535 → rankE m.length e j ≤ r + 1 → gt d j = gt e j
  now : ∀ j, j < k → i ≠ j → i ≠ to → rankE m.length e j ≤ r → gt e j < 65535 → gt d i ≤ addM (costT m i j) (gt e j)
theorem Rnd.start {m : List (List Int)} {to : Nat} {e d : List Int} (he : Bell m to e) (hto : to < m.length) (hl : d.length = m.length) (h : ∀ j, j < m.length → gt d j = 65535) : Rnd m to e (d.set to 0) 0 0 0 where
  len := by simp [hl]
  lo j hj := by
    rw [gt_set (by omega)]; split
    · rename_i e1; subst e1; rw [he.zero]; exact Int.le_refl _
    · rw [h j hj]; exact (he.range j hj).2
  hi j hj := by rw [gt_set (by omega)]; have := h j hj; split <;> omega
  zero := by rw [gt_set (by omega)]; simp
  old j hj h1 h2 := by
    by_cases e1 : j = to
    · subst e1; rw [gt_set (by omega), he.zero]; simp
    · have h3 := he.pos hj e1
      have := rank_lt (n := m.length) (e := e) (i := j) (k := to) hto (by rw [he.zero]; omega)
      omega
  new := none_lt
  now := none_lt
theorem addM_mono {c a b : Int} (hc : 1 ≤ c ∧ c ≤ 65535) (ha : 0 ≤ a ∧ a ≤ 65535) (hb : 0 ≤ b ∧ b ≤ 65535) (h : a ≤ b) : addM c a ≤ addM c b := by
  rw [addM_cost hc ha, addM_cost hc hb]; omega
theorem Rnd.skip {m : List (List Int)} {to : Nat} {e d : List Int} {r i k : Nat} (s : Rnd m to e d r i k) (h : i = k ∨ i = to) : Rnd m to e d r i (k + 1) :=
  ⟨s.len, s.lo, s.hi, s.zero, s.old, s.new, step_lt s.now fun h1 h2 => by rcases h with h | h <;> contradiction⟩
theorem Rnd.step {m : List (List Int)} {to : Nat} {e d : List Int} {r i k : Nat} (s : Rnd m to e d r i k) (he : Bell m to e) (hi : i < m.length) (hk : k < m.length) (h1 : i ≠ k) (h2 : i ≠ to) :
    Rnd m to e (d.set i (min (gt d i) (addM (costT m i k) (gt d k)))) r i (k + 1) := by
  have hg : ∀ j, gt (d.set i (min (gt d i) (addM (costT m i k) (gt d k)))) j = if j = i then min (gt d i) (addM (costT m i k) (gt d k)) else gt d j := fun j => gt_set (by rw [s.len]; exact hi)
  have rk := he.range k hk
  have a1 := s.lo k hk
  have a2 := s.hi k hk
  have low : gt e i ≤ min (gt d i) (addM (costT m i k) (gt d k)) := by
    have b1 := s.lo i hi
    have b2 := he.le i k hi hk
    have b3 := addM_mono (costT_range m i k) rk (b := gt d k) (by omega) a1
    omega
  have up := s.hi i hi
  refine ⟨by simp [s.len], fun j hj => ?_, fun j hj => ?_, ?_, fun j hj c1 c2 => ?_, fun j hj c1 c2 => ?_, step_lt (fun j hj c1 c2 c3 c4 => ?_) fun c1 c2 c3 c4 => ?_⟩
  · rw [hg]; split
    · rename_i x; subst x; exact low
    · exact s.lo j hj
  · rw [hg]; split
    · omega
    · exact s.hi j hj
  · rw [hg, if_neg (fun h => h2 h.symm)]; exact s.zero
  · rw [hg]; split
    · rename_i x; subst x; have := s.old j hj c1 c2; omega
    · exact s.old j hj c1 c2
  · rw [hg, if_neg (by omega)]; exact s.new j hj c1 c2
  · rw [hg, if_pos rfl]; have := s.now j hj c1 c2 c3 c4; omega
  · rw [hg, if_pos rfl]
    have := s.old k hk c4 c3
    rw [this]; omega
theorem Rnd.row {m : List (List Int)} {to : Nat} {e d : List Int} {r i : Nat} (s : Rnd m to e d r i m.length) (he : Bell m to e) (hi : i < m.length) : Rnd m to e d r (i + 1) 0 :=
  ⟨s.len, s.lo, s.hi, s.zero, s.old, step_lt s.new fun c1 c2 => by
    by_cases e1 : i = to
    · subst e1; rw [s.zero, he.zero]
    · obtain ⟨k, hk, h2⟩ := he.eq i hi e1 c1
      have rk := he.range k hk
      have cr := costT_range m i k
      have h3 := h2
      rw [addM_cost cr rk] at h3
      have hne : i ≠ k := fun x => by subst x; omega
      have := s.now k hk hne e1 (by have := rank_lt (n := m.length) (e := e) (i := i) (k := k) hk (by omega); omega) (by omega)
      have := s.lo i hi
      omega, none_lt⟩
theorem Rnd.round {m : List (List Int)} {to : Nat} {e d : List Int} {r : Nat} (s : Rnd m to e d r m.length 0) : Rnd m to e d (r + 1) 0 0 :=
  ⟨s.len, s.lo, s.hi, s.zero, fun j hj c1 c2 => s.new j hj c1 c2, none_lt, none_lt⟩
theorem Rnd.fin {m : List (List Int)} {to : Nat} {e d : List Int} (s : Rnd m to e d m.length 0 0) (he : Bell m to e) : d = e :=
  ext_gt (by rw [s.len, he.len]) fun i hi => by
    rw [s.len] at hi
    rcases Int.lt_or_le (gt e i) 65535 with h | h
    · exact s.old i hi h (by have := rank_top (n := m.length) (e := e) hi; omega)
    · have := s.lo i hi; have := s.hi i hi; have := he.range i hi; omega
theorem k_refCostN (M : List (Tg × List Int)) (t : Tg) (i k : Nat) (hv : validT (rowsM M) = true) (hi : i < M.length) (hk : k < M.length) :
    Con Try.prog 36 [.fs t 1 (mat M), int (i : Int), int (k : Int)] [] (int (costT (rowsM M) i k)) [] := by
  have hr : (rowsM M).length = M.length := by simp [rowsM]
  rw [← costV_nat hv (by omega) (by omega)]; exact k_refCost M t i k
theorem k_refDistances (M : List (Tg × List Int)) (t : Tg) (to : Nat) (e : List Int) (hv : validT (rowsM M) = true) (hto : to < M.length) (he : Bell (rowsM M) to e) :
    Con Try.prog 33 [.fs t 1 (mat M), int (to : Int)] [] (.ov 1 0 0 e.length) [.arr none 1 (ints e)] := by
  have hM := mat_len M
  have hr : (rowsM M).length = M.length := by simp [rowsM]
  have h12 : 1 ≤ M.length ∧ M.length ≤ 12 := by have := validT_n hv; omega
  refine spec_of_run ttok mixed (T0 := 2313972799133189107) (ts := [.tmp 4]) 82 rfl rfl rfl rfl (by simp) rfl ?_
  conv => whnf
  repeat' (first | ((with_reducible apply Bif.tt hv); conv => whnf) | ((first | (with_reducible apply Nm.rep _ (int_mk _)) | ((with_reducible apply Nm.mk); focus ((try simp only [lns, mat_len]); exact rfl)) | ((with_reducible apply Need.mk); focus (unfold roomOK; simp only [lns, mat_len]; omega)) | (apply CallN.mk (k_refValid M t)) | (with_reducible apply Bif.F) | ((with_reducible apply Bif.dec) <;> intro h <;> (try simp only [lns, mat_len] at h) <;> (try (exfalso; omega))) | (with_reducible apply Bif.not) | (with_reducible apply Frz.l)) <;> conv => whnf) | fail)
  refine loop_keep ttok mixed (T0 := 2313972799133189107) [0, 1, 5, 27] (ι := {p : Nat × List Int // p.1 ≤ M.length ∧ p.2.length = M.length ∧ ∀ j, j < p.1 → gt p.2 j = 65535})
    (fun p => [(28, int (p.1.1 : Int))]) (fun p => [.arr (some M.length) 1 (ints p.1.2)]) (fun p => M.length - p.1.1) ⟨(0, List.replicate M.length 0), by omega, by simp, none_lt⟩ ?_
  conv => whnf
  repeat' (first | ((first | (with_reducible apply Same.rfl) | (apply Same.int; focus rfl) | (with_reducible apply Frz.l)) <;> conv => whnf) | fail)
  rintro ⟨⟨k, d⟩, hk, hd, hall⟩
  dsimp only at hk hd hall ⊢
  conv => whnf
  repeat' (first | ((first | (with_reducible apply Nm.set _ (int_mk _)) | ((with_reducible apply Nm.mk); focus ((try simp only [lns, mat_len]); exact rfl)) | ((with_reducible apply Wr.i64); focus omega) | ((with_reducible apply Need.mk); focus omega) | ((with_reducible apply Elem.lst); focus omega) | ((with_reducible apply Bif.dec) <;> intro h <;> (try simp only [lns, mat_len] at h)) | (with_reducible apply Frz.l)) <;> conv => whnf) | fail)
  · (refine ⟨⟨(k + 1, d.set k 65535), by omega, by simp [hd], step_lt (fun j hj => by rw [gt_set (by omega), hall j hj]; simp) (by rw [gt_set (by omega)]; simp)⟩, ?_⟩; (try dsimp only); conv => whnf); repeat' (first | with_reducible apply True.intro | ((first | ((with_reducible apply Need.mk); focus omega) | (with_reducible apply Same.rfl) | (apply Same.int; focus rfl) | (with_reducible apply Turn.l) | (with_reducible apply Frz.l)) <;> conv => whnf) | fail)
  have e1 : k = M.length := by omega
  subst e1
  refine loop_keep ttok mixed (T0 := 2313972799133189107) [0, 1, 5] (ι := {p : Nat × List Int // p.1 ≤ M.length ∧ Rnd (rowsM M) to e p.2 p.1 0 0})
    (fun p => [(7, int (p.1.1 : Int))]) (fun p => [.arr (some M.length) 1 (ints p.1.2)]) (fun p => M.length - p.1.1) ⟨(0, d.set to 0), by omega, Rnd.start he (by omega) (by omega) (by rw [hr]; exact hall)⟩ ?_
  conv => whnf
  repeat' (first | ((first | (with_reducible apply Same.rfl) | (apply Same.int; focus rfl) | (with_reducible apply Frz.l)) <;> conv => whnf) | fail)
  clear hall hk hd d
  rintro ⟨⟨r, d⟩, hrl, s⟩
  dsimp only at hrl s ⊢
  conv => whnf
  repeat' (first | ((first | ((with_reducible apply Nm.mk); focus ((try simp only [lns, mat_len]); exact rfl)) | ((with_reducible apply Bif.dec) <;> intro h <;> (try simp only [lns, mat_len] at h)) | (with_reducible apply Same.rfl) | (with_reducible apply Frz.l)) <;> conv => whnf) | fail)
  · refine loop_keep ttok mixed (T0 := 2313972799133189107) [0, 1, 5, 7, 45] (ι := {p : Nat × List Int // p.1 ≤ M.length ∧ Rnd (rowsM M) to e p.2 r p.1 0})
      (fun p => [(46, int (p.1.1 : Int))]) (fun p => [.arr (some M.length) 1 (ints p.1.2)]) (fun p => M.length - p.1.1) ⟨(0, d), by omega, s⟩ ?_
    conv => whnf
    repeat' (first | ((first | (with_reducible apply Same.rfl) | (apply Same.int; focus rfl) | (with_reducible apply Frz.l)) <;> conv => whnf) | fail)
    skip
    rintro ⟨⟨i, d⟩, hil, s⟩
    dsimp only at hil s ⊢
    conv => whnf
    repeat' (first | ((first | ((with_reducible apply Nm.mk); focus ((try simp only [lns, mat_len]); exact rfl)) | ((with_reducible apply Wr.i64); focus omega) | ((with_reducible apply Bif.dec) <;> intro h <;> (try simp only [lns, mat_len] at h)) | (with_reducible apply Frz.l)) <;> conv => whnf) | fail)
    · refine loop_keep ttok mixed (T0 := 2313972799133189107) [0, 1, 5, 7, 8, 45, 46, 50] (ι := {p : Nat × List Int // p.1 ≤ M.length ∧ Rnd (rowsM M) to e p.2 r i p.1})
        (fun p => [(51, int (p.1.1 : Int))]) (fun p => [.arr (some M.length) 1 (ints p.1.2)]) (fun p => M.length - p.1.1) ⟨(0, d), by omega, s⟩ ?_
      conv => whnf
      repeat' (first | ((first | (with_reducible apply Same.rfl) | (apply Same.int; focus rfl) | (with_reducible apply Frz.l)) <;> conv => whnf) | fail)
      skip
      rintro ⟨⟨k, d⟩, hkl, s⟩
      dsimp only at hkl s ⊢
      have ld := s.len
      rw [hr] at ld
      conv => whnf
      repeat' (first | ((first | (with_reducible apply Nm.set _ (int_mk _)) | ((with_reducible apply Nm.mk); focus ((try simp only [lns, mat_len]); exact rfl)) | ((with_reducible apply Wr.i64); focus omega) | ((with_reducible apply Need.mk); focus first | omega | kernel_rfl) | ((with_reducible apply Elem.lst); focus omega) | (apply CallN.mk (k_refCostN M t i k hv (by omega) (by omega))) | (apply CallN.mk (k_refmetricAdd _ _)) | (with_reducible first | apply Bif.T | apply Bif.F) | ((with_reducible first | apply Bif.dec | apply Bif.bne) <;> intro h <;> (try simp only [lns, mat_len] at h)) | (with_reducible apply Frz.l)) <;> conv => whnf) | fail)
      · (refine ⟨⟨(k + 1, _), by omega, s.step he (by omega) (by omega) (by omega) (by omega)⟩, ?_⟩; (try dsimp only); conv => whnf); repeat' (first | with_reducible apply True.intro | ((first | ((with_reducible apply Need.mk); focus omega) | (with_reducible apply Same.rfl) | (apply Same.int; focus rfl) | (with_reducible apply Turn.l) | (with_reducible apply Frz.l)) <;> conv => whnf) | fail)
      · (refine ⟨⟨(k + 1, d), by omega, s.skip (by omega)⟩, ?_⟩; (try dsimp only); conv => whnf); repeat' (first | with_reducible apply True.intro | ((first | ((with_reducible apply Need.mk); focus omega) | (with_reducible apply Same.rfl) | (apply Same.int; focus rfl) | (with_reducible apply Turn.l) | (with_reducible apply Frz.l)) <;> conv => whnf) | fail)
      · (refine ⟨⟨(k + 1, d), by omega, s.skip (by omega)⟩, ?_⟩; (try dsimp only); conv => whnf); repeat' (first | with_reducible apply True.intro | ((first | ((with_reducible apply Need.mk); focus omega) | (with_reducible apply Same.rfl) | (apply Same.int; focus rfl) | (with_reducible apply Turn.l) | (with_reducible apply Frz.l)) <;> conv => whnf) | fail)
      · have e2 : k = (rowsM M).length := by omega
        subst e2
        (refine ⟨⟨(i + 1, d), by omega, s.row he (by omega)⟩, ?_⟩; (try dsimp only); conv => whnf); repeat' (first | with_reducible apply True.intro | ((first | ((with_reducible apply Need.mk); focus omega) | (with_reducible apply Same.rfl) | (apply Same.int; focus rfl) | (with_reducible apply Turn.l) | (with_reducible apply Frz.l)) <;> conv => whnf) | fail)
    · have e2 : i = (rowsM M).length := by omega
      subst e2
      (refine ⟨⟨(r + 1, d), by omega, s.round⟩, ?_⟩; (try dsimp only); conv => whnf); repeat' (first | with_reducible apply True.intro | ((first | ((with_reducible apply Need.mk); focus omega) | (with_reducible apply Same.rfl) | (apply Same.int; focus rfl) | (with_reducible apply Turn.l) | (with_reducible apply Frz.l)) <;> conv => whnf) | fail)
  · have e2 : r = (rowsM M).length := by omega
    subst e2
    have := s.fin he
    subst this
    have := s.len
    repeat' (first | with_reducible apply True.intro | ((first | (with_reducible apply Same.rfl) | ((with_reducible apply Same.mk); focus omega) | (with_reducible apply Cut.l) | (with_reducible apply Frz.l)) <;> conv => whnf) | fail)
    all_goals trace_state
end Go.Fw
