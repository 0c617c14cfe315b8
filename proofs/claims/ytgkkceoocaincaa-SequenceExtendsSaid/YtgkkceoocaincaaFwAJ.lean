/- Regions in any order: first the order of writes. -/
import Derived.Test.YtgkkceoocaincaaFwAI
namespace Go.Fw

theorem updSl_not {t : Nat} : ∀ {l : List (Nat × SV)} {f : Nat → Option SV}, t ∉ l.map Prod.fst → updSl f l t = f t
  | [], _, _ => rfl
  | (k, s) :: r, f, h => by
    simp only [List.map_cons, List.mem_cons, not_or] at h
    rw [updSl, updSl_not h.2]
    simp [h.1]
theorem updSl_cong {t : Nat} : ∀ {l : List (Nat × SV)} {f g : Nat → Option SV}, (t ∈ l.map Prod.fst ∨ f t = g t) → updSl f l t = updSl g l t
  | [], f, g, h => h.elim (fun h => by cases h) id
  | (k, s) :: r, f, g, h => by
    simp only [updSl]
    apply updSl_cong
    by_cases hk : t = k
    · exact .inr (by simp [hk])
    · rcases h with h | h
      · simp only [List.map_cons, List.mem_cons, hk, false_or] at h; exact .inl h
      · exact .inr (by simp [hk, h])
theorem updHp_not {t : Nat} : ∀ {l : List (Nat × OB)} {f : Nat → Option OB}, t ∉ l.map Prod.fst → updHp f l t = f t
  | [], _, _ => rfl
  | (k, s) :: r, f, h => by
    simp only [List.map_cons, List.mem_cons, not_or] at h
    rw [updHp, updHp_not h.2]
    simp [h.1]
theorem updHp_cong {t : Nat} : ∀ {l : List (Nat × OB)} {f g : Nat → Option OB}, (t ∈ l.map Prod.fst ∨ f t = g t) → updHp f l t = updHp g l t
  | [], f, g, h => h.elim (fun h => by cases h) id
  | (k, s) :: r, f, g, h => by
    simp only [updHp]
    apply updHp_cong
    by_cases hk : t = k
    · exact .inr (by simp [hk])
    · rcases h with h | h
      · simp only [List.map_cons, List.mem_cons, hk, false_or] at h; exact .inl h
      · exact .inr (by simp [hk, h])

section
variable {α : Type} {u : (Nat → Option α) → Rec → Nat → Option α} {ks : Rec → List Nat}
/-- The writes of those records that D names, in text order. -/
def fold (u : (Nat → Option α) → Rec → Nat → Option α) (D : Nat → Bool) : Nat → List Rec → (Nat → Option α) → Nat → Option α
  | _, [], f => f
  | j, rc :: r, f => fold u D (j + 1) r (match D j with | true => u f rc | false => f)

structure UP (u : (Nat → Option α) → Rec → Nat → Option α) (ks : Rec → List Nat) : Prop where
  no : ∀ f rc t, t ∉ ks rc → u f rc t = f t
  co : ∀ f g rc t, (t ∈ ks rc ∨ f t = g t) → u f rc t = u g rc t

theorem fold_congr (U : UP u ks) {D D' : Nat → Bool} {t : Nat} : ∀ (l : List Rec) (j : Nat) (f g : Nat → Option α), f t = g t → (∀ (i : Nat) rc, l[i]? = some rc → D (j + i) ≠ D' (j + i) → t ∉ ks rc) →
    fold u D j l f t = fold u D' j l g t
  | [], _, _, _, h, _ => h
  | rc :: r, j, f, g, h, hd => by
    simp only [fold]
    refine fold_congr U r (j + 1) _ _ ?_ (fun i rc' hi hne => hd (i + 1) rc' (by simpa using hi) (by rwa [show j + (i + 1) = j + 1 + i by omega]))
    have h0 := hd 0 rc rfl
    rw [Nat.add_zero] at h0
    cases hD : D j <;> cases hD' : D' j
    · exact h
    · simp only [U.no g rc t (h0 (by simp [hD, hD']))]; exact h
    · simp only [U.no f rc t (h0 (by simp [hD, hD']))]; exact h
    · exact U.co f g rc t (.inr h)
theorem fold_last (U : UP u ks) {D : Nat → Bool} {t : Nat} {rc0 : Rec} (ht : t ∈ ks rc0) : ∀ (l : List Rec) (j i0 : Nat) (f g : Nat → Option α), l[i0]? = some rc0 → D (j + i0) = true →
    (∀ (i : Nat) rc, l[i]? = some rc → i0 < i → D (j + i) = true → t ∉ ks rc) → fold u D j l f t = u g rc0 t
  | [], _, _, _, _, h, _, _ => by simp at h
  | rc :: r, j, 0, f, g, h, hD, hn => by
    simp only [List.getElem?_cons_zero, Option.some.injEq] at h
    subst h
    rw [Nat.add_zero] at hD
    simp only [fold, hD]
    have h1 : fold u D (j + 1) r (u f rc) t = fold u (fun _ => false) (j + 1) r (u f rc) t := fold_congr U r (j + 1) _ _ rfl (fun i rc' hi hne => by
      refine hn (i + 1) rc' (by simpa using hi) (by omega) ?_
      rw [show j + (i + 1) = j + 1 + i by omega]
      cases hb : D (j + 1 + i) with
      | true => rfl
      | false => simp [hb] at hne)
    have h2 : ∀ (l : List Rec) (j : Nat) (f : Nat → Option α), fold u (fun _ => false) j l f t = f t := by
      intro l
      induction l with
      | nil => intro _ _; rfl
      | cons _ _ ih => intro j f; exact ih (j + 1) f
    rw [h1, h2]
    exact U.co f g rc t (.inl ht)
  | rc :: r, j, i0 + 1, f, g, h, hD, hn => by
    simp only [fold]
    exact fold_last U ht r (j + 1) i0 _ g (by simpa using h) (by rwa [show j + 1 + i0 = j + (i0 + 1) by omega]) (fun i rc' hi hlt hd => hn (i + 1) rc' (by simpa using hi) (by omega) (by rwa [show j + (i + 1) = j + 1 + i by omega]))
/-- One more is done, and those behind it that are done write elsewhere. -/
theorem fold_more (U : UP u ks) {D : Nat → Bool} {l : List Rec} {i0 : Nat} {rc0 : Rec} {f : Nat → Option α} (h : l[i0]? = some rc0)
    (hn : ∀ (i : Nat) rc, l[i]? = some rc → i0 < i → D i = true → ∀ t ∈ ks rc0, t ∉ ks rc) : fold u (fun i => i == i0 || D i) 0 l f = u (fold u D 0 l f) rc0 := by
  funext t
  by_cases ht : t ∈ ks rc0
  · refine fold_last U ht l 0 i0 f _ h (by simp) (fun i rc hi hlt hd => hn i rc hi hlt ?_ t ht)
    simp only [Nat.zero_add, Bool.or_eq_true, beq_iff_eq] at hd
    exact hd.resolve_left (by omega)
  · rw [U.no _ rc0 t ht]
    refine fold_congr U l 0 f f rfl (fun i rc hi hne => ?_)
    rw [Nat.zero_add] at hne
    by_cases hi0 : i = i0
    · subst hi0; rw [h] at hi; cases hi; exact ht
    · simp [hi0] at hne
end

def uS (f : Nat → Option SV) (rc : Rec) : Nat → Option SV := updSl f rc.wr
def uH (f : Nat → Option OB) (rc : Rec) : Nat → Option OB := updHp f rc.wh
theorem upS : UP uS (fun rc => rc.wr.map Prod.fst) := ⟨fun _ _ _ h => updSl_not h, fun _ _ _ _ h => updSl_cong h⟩
theorem upH : UP uH (fun rc => rc.wh.map Prod.fst) := ⟨fun _ _ _ h => updHp_not h, fun _ _ _ _ h => updHp_cong h⟩

/-- The states of the text order. -/
theorem Der.at {P : Program} {n : Sz} {all : Array Oper} {l : List Oper} {sl hp rcs sl' hp'} (hd : Der P all n l sl hp rcs sl' hp') : ∀ (j : Nat), rcs.length = l.length ∧
    (∀ (i : Nat) o rc, l[i]? = some o → rcs[i]? = some rc → OpG P all o n (fold uS (fun x => decide (x < j + i)) j rcs sl) (fold uH (fun x => decide (x < j + i)) j rcs hp) rc) ∧
    sl' = fold uS (fun _ => true) j rcs sl ∧ hp' = fold uH (fun _ => true) j rcs hp := by
  induction hd with
  | nil => intro j; exact ⟨rfl, fun i o rc h => by simp at h, rfl, rfl⟩
  | @cons o r sl hp rc rcs sl' hp' hg _ ih =>
    intro j
    obtain ⟨h1, h2, h3, h4⟩ := ih (j + 1)
    refine ⟨by simp [h1], fun i o' rc' ho hr => ?_, by simpa [fold, uS] using h3, by simpa [fold, uH] using h4⟩
    cases i with
    | zero =>
      simp at ho hr
      subst ho hr
      have none : ∀ {α : Type} {u : (Nat → Option α) → Rec → Nat → Option α} (l : List Rec) (k : Nat) (f : Nat → Option α), j ≤ k → fold u (fun x => decide (x < j + 0)) k l f = f := by
        intro α u l
        induction l with
        | nil => intro _ _ _; rfl
        | cons x xs ihx =>
          intro k f hk
          have : decide (k < j + 0) = false := by simp; omega
          simp only [fold, this]
          exact ihx (k + 1) f (by omega)
      rw [none _ _ _ (Nat.le_refl _), none _ _ _ (Nat.le_refl _)]
      exact hg
    | succ i =>
      have := h2 i o' rc' (by simpa using ho) (by simpa using hr)
      have e1 : decide (j < j + (i + 1)) = true := by simp
      simp only [fold, e1]
      rw [show j + (i + 1) = j + 1 + i by omega]
      exact this
end Go.Fw
