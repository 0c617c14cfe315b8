/- Regions in any order: what stands in order, and the result. -/
import Derived.Test.YtgkkceoocaincaaFwAJ
namespace Go.Fw

theorem nthN_app : ∀ (l r : List Nat) (i : Nat), i < l.length → nthN (l ++ r) i = nthN l i := by
  intro l r i h
  rw [nthN_eq, nthN_eq, List.getD, List.getD, List.getElem?_append_left h]
theorem nthN_ge (l : List Nat) (i : Nat) (h : l.length ≤ i) : nthN l i = 0 := by
  rw [nthN_eq, List.getD, List.getElem?_eq_none h]; rfl

def anc1 (acc : List Nat) (l : List Edge) (s : Nat) : Nat := l.foldl (fun s e => if Region.binds .any e then s ||| (1 <<< e.on) ||| nthN acc e.on else s) s
theorem anc1_bit (acc : List Nat) {x : Nat} : ∀ (l : List Edge) (s : Nat), (anc1 acc l s).testBit x = true → s.testBit x = true ∨ ∃ e ∈ l, Region.binds .any e = true ∧ (e.on = x ∨ (nthN acc e.on).testBit x = true)
  | [], s, h => .inl h
  | e :: r, s, h => by
    have h : (anc1 acc r (if Region.binds .any e then s ||| (1 <<< e.on) ||| nthN acc e.on else s)).testBit x = true := h
    rcases anc1_bit acc r _ h with h | ⟨e', h1, h2⟩
    · split at h
      · rename_i hb
        simp only [Nat.testBit_or, Bool.or_eq_true] at h
        rcases h with (h | h) | h
        · exact .inl h
        · refine .inr ⟨e, List.mem_cons_self, hb, .inl ?_⟩
          rw [Nat.one_shiftLeft, Nat.testBit_two_pow] at h
          simpa using h
        · exact .inr ⟨e, List.mem_cons_self, hb, .inr h⟩
      · exact .inl h
    · exact .inr ⟨e', List.mem_cons_of_mem _ h1, h2⟩

theorem ancs_pre : ∀ (r : List Oper) (acc : List Nat), ∃ t, ancs r acc = acc ++ t
  | [], acc => ⟨[], by simp [ancs]⟩
  | o :: r, acc => by
    obtain ⟨t, ht⟩ := ancs_pre r (snoc acc (anc1 acc o.after.toList 0))
    rw [snoc_eq, List.append_assoc] at ht
    exact ⟨_, by rw [ancs]; exact (snoc_eq _ _ ▸ ht)⟩
theorem ancs_bit {x : Nat} : ∀ (r : List Oper) (acc : List Nat) (i : Nat) (o : Oper), r[i]? = some o → (nthN (ancs r acc) (acc.length + i)).testBit x = true →
    ∃ e ∈ o.after, Region.binds .any e = true ∧ (e.on = x ∨ (nthN (ancs r acc) e.on).testBit x = true)
  | [], _, _, _, h, _ => by simp at h
  | o :: r, acc, 0, o', h, hb => by
    simp only [List.getElem?_cons_zero, Option.some.injEq] at h
    subst h
    have e1 : ancs (o :: r) acc = ancs r (snoc acc (anc1 acc o.after.toList 0)) := rfl
    obtain ⟨t, ht⟩ := ancs_pre r (snoc acc (anc1 acc o.after.toList 0))
    rw [e1, ht, snoc_eq] at hb ⊢
    rw [Nat.add_zero, nthN_app _ _ _ (by simp), nthN_eq, List.getD, List.getElem?_append_right (Nat.le_refl _)] at hb
    simp only [Nat.sub_self, List.getElem?_cons_zero, Option.getD_some] at hb
    rcases anc1_bit acc _ _ hb with h | ⟨e, h1, h2, h3⟩
    · simp at h
    · refine ⟨e, by simpa using h1, h2, h3.imp_right fun h => ?_⟩
      rcases Nat.lt_or_ge e.on acc.length with hl | hl
      · rw [List.append_assoc, nthN_app _ _ _ hl]; exact h
      · rw [nthN_ge _ _ hl] at h; simp at h
  | o :: r, acc, i + 1, o', h, hb => by
    have e1 : ancs (o :: r) acc = ancs r (snoc acc (anc1 acc o.after.toList 0)) := rfl
    rw [e1] at hb ⊢
    refine ancs_bit r _ i o' (by simpa using h) ?_
    rw [snoc_eq, List.length_append, List.length_singleton, show acc.length + 1 + i = acc.length + (i + 1) by omega, ← snoc_eq]
    exact hb

theorem fits_spec {an : List Nat} : ∀ (rest ahead : List Rec) (j : Nat), fits ahead rest an j = true → ahead.length = j → ∀ (a b : Nat) ra rb, a < b → j ≤ b → (ahead ++ rest)[a]? = some ra → (ahead ++ rest)[b]? = some rb →
    clash ra rb = true → (nthN an b).testBit a = true
  | [], ahead, j, _, hj, a, b, ra, rb, _, hb, _, h2, _ => by
    rw [List.append_nil] at h2
    have := (List.getElem?_eq_some_iff.1 h2).1
    omega
  | rc :: r, ahead, j, h, hj, a, b, ra, rb, hab, hb, h1, h2, hc => by
    simp only [fits, Bool.and_eq_true] at h
    rcases Nat.eq_or_lt_of_le hb with rfl | hlt
    · rw [List.getElem?_append_left (by omega)] at h1
      rw [List.getElem?_append_right (by omega), hj, Nat.sub_self] at h2
      simp at h2; subst h2
      have := List.all_eq_true.1 h.1 (ra, a) (by
        rw [List.mem_zipIdx_iff_getElem?]; exact h1)
      simp only [hc, Bool.not_true, Bool.false_or] at this
      exact this
    · exact fits_spec r (snoc ahead rc) (j + 1) h.2 (by simp [snoc_eq, hj]) a b ra rb hab (by omega) (by rw [snoc_eq]; simpa using h1) (by rw [snoc_eq]; simpa using h2) hc

theorem meets_not {a b : List Nat} (h : meets a b = false) {x : Nat} (hx : x ∈ a) : x ∉ b := fun hb => by
  simp only [meets, List.any_eq_false] at h
  have := h x hx
  simp only [Bool.not_eq_true, List.any_eq_false] at this
  have := this x hb
  simp at this

section
variable {P : Program} {n : Sz} {all : Array Oper}

theorem draw_sound {sl hp rcs sl' hp'} (hd : Der P all n all.toList sl hp rcs sl' hp') (hok : drawOK all.toList rcs = true) {B : Base} {Q : Exit → Act → World → Prop} (hB : B.n = n)
    (hQ : ∀ cx' a' w', SatF B cx' sl' hp' a' w' → Q .normal a' w') : ∀ (fuel : Nat) (todo : List Nat) (listed : Array Bool) (D : Nat → Bool), todo.length = fuel → todo.Nodup → listed.size = all.size →
    (∀ i, i ∈ todo ↔ i < all.size ∧ D i = false) → (∀ i, i < all.size → listed.getD i true = D i ∧ listed.getD i false = D i) → (∀ i, all.size ≤ i → D i = false) →
    (∀ i o e, D i = true → all[i]? = some o → e ∈ o.after → Region.binds .any e = true → D e.on = true) →
    ∀ (cx : Cx) (a : Act) (w : World), SatF B cx (fold uS D 0 rcs sl) (fold uH D 0 rcs hp) a w → wpAny P .any all Q fuel listed a w := by
  obtain ⟨hlen, hat, hfin1, hfin2⟩ := hd.at 0
  simp only [drawOK, Bool.and_eq_true] at hok
  obtain ⟨hfit, hback⟩ := hok
  have hback : ∀ (i : Nat) o e, all[i]? = some o → e ∈ o.after → Region.binds .any e = true → e.on < i := by
    intro i o e ho he hb
    have := List.all_eq_true.1 hback (o, i) (by rw [List.mem_zipIdx_iff_getElem?]; simpa using ho)
    have := List.all_eq_true.1 this e (by simpa using he)
    simpa [hb] using this
  have hsz : rcs.length = all.size := by simpa using hlen
  -- what is not done yet can go on
  have hready : ∀ (listed : Array Bool) (D : Nat → Bool), (∀ i, i < all.size → listed.getD i true = D i ∧ listed.getD i false = D i) → (∀ i, all.size ≤ i → D i = false) → Region.ready .any all listed = [] → ∀ i, i < all.size → D i = true := by
    intro listed D hL hout hr i
    induction i using Nat.strongRecOn with
    | _ i ih =>
      intro hi
      cases hDi : D i with
      | true => rfl
      | false =>
        have : i ∈ Region.ready .any all listed := by
          rw [mem_ready]
          refine ⟨by rw [(hL i hi).1, hDi], all[i], Array.getElem?_eq_getElem hi, fun e he hb => ?_⟩
          have hlt := hback i _ e (Array.getElem?_eq_getElem hi) he hb
          rw [(hL e.on (by omega)).2]
          exact ih e.on hlt (by omega)
        rw [hr] at this; cases this
  have hdone : ∀ (D : Nat → Bool), (∀ i, i < all.size → D i = true) → fold uS D 0 rcs sl = sl' ∧ fold uH D 0 rcs hp = hp' := by
    intro D hD
    rw [hfin1, hfin2]
    refine ⟨?_, ?_⟩
    · funext t
      exact fold_congr upS rcs 0 sl sl rfl fun i rc hi hne => absurd (hD (0 + i) (by have := (List.getElem?_eq_some_iff.1 hi).1; omega)) hne
    · funext t
      exact fold_congr upH rcs 0 hp hp rfl fun i rc hi hne => absurd (hD (0 + i) (by have := (List.getElem?_eq_some_iff.1 hi).1; omega)) hne
  intro fuel
  induction fuel with
  | zero =>
    intro todo listed D h1 h2 h3 h4 h5 h6 h7 cx a w hs
    have hall : ∀ i, i < all.size → D i = true := fun i hi => by
      cases hDi : D i with
      | true => rfl
      | false =>
        have := (h4 i).2 ⟨hi, hDi⟩
        rw [List.length_eq_zero_iff.1 h1] at this; cases this
    obtain ⟨e1, e2⟩ := hdone D hall
    rw [e1, e2] at hs
    refine ⟨?_, hQ cx a w hs⟩
    cases hr : Region.ready .any all listed with
    | nil => rfl
    | cons i r =>
      have : i ∈ Region.ready .any all listed := by rw [hr]; exact List.mem_cons_self
      rw [mem_ready] at this
      obtain ⟨g1, o, g2, _⟩ := this
      have hi : i < all.size := (Array.getElem?_eq_some_iff.1 g2).1
      rw [(h5 i hi).1, hall i hi] at g1
      cases g1
  | succ fuel ih =>
    intro todo listed D h1 h2 h3 h4 h5 h6 h7 cx a w hs
    refine ⟨fun hr => ?_, fun i hi => ?_⟩
    · obtain ⟨e1, e2⟩ := hdone D (hready listed D h5 h6 hr)
      rw [e1, e2] at hs
      exact hQ cx a w hs
    · rw [mem_ready] at hi
      obtain ⟨g1, o, ho, g3⟩ := hi
      have hil : i < all.size := (Array.getElem?_eq_some_iff.1 ho).1
      rw [(h5 i hil).1] at g1
      have g3 : ∀ e ∈ o.after, Region.binds .any e = true → D e.on = true := fun e he hb => by
        have := g3 e he hb
        have hlt := hback i o e ho he hb
        rw [(h5 e.on (by omega)).2] at this
        exact this
      -- all that must come before it is done
      have hanc : ∀ (k : Nat) ok, all[k]? = some ok → (∀ e ∈ ok.after, Region.binds .any e = true → D e.on = true) → ∀ x, (nthN (ancs all.toList []) k).testBit x = true → D x = true := by
        intro k
        induction k using Nat.strongRecOn with
        | _ k ihk =>
          intro ok hk hed x hx
          obtain ⟨e, e1, e2, e3⟩ := ancs_bit all.toList [] k ok (by simpa using hk) (by simpa using hx)
          rcases e3 with rfl | e3
          · exact hed e e1 e2
          · have hlt := hback k ok e hk e1 e2
            have hksz : k < all.size := (Array.getElem?_eq_some_iff.1 hk).1
            have hek : e.on < all.size := by omega
            exact ihk e.on hlt _ (Array.getElem?_eq_getElem hek) (fun e' he' hb' => h7 e.on _ e' (hed e e1 e2) (Array.getElem?_eq_getElem hek) he' hb') x e3
      have hil2 : i < rcs.length := by omega
      let rc := rcs[i]
      have hrc : rcs[i]? = some rc := List.getElem?_eq_getElem hil2
      have before : ∀ (b : Nat) rb, rcs[b]? = some rb → b < i → D b = false → clash rb rc = false := by
        intro b rb hb hlt hDb
        cases hc : clash rb rc with
        | false => rfl
        | true =>
          have := fits_spec rcs [] 0 hfit rfl b i rb rc hlt (Nat.zero_le _) (by simpa using hb) (by simpa using hrc) hc
          rw [hanc i o ho g3 b this] at hDb
          cases hDb
      have behind : ∀ (b : Nat) rb, rcs[b]? = some rb → i < b → D b = true → clash rc rb = false := by
        intro b rb hb hlt hDb
        cases hc : clash rc rb with
        | false => rfl
        | true =>
          have := fits_spec rcs [] 0 hfit rfl i b rc rb hlt (Nat.zero_le _) (by simpa using hrc) (by simpa using hb) hc
          have hbl : b < all.size := by have := (List.getElem?_eq_some_iff.1 hb).1; omega
          rw [hanc b _ (Array.getElem?_eq_getElem hbl) (fun e he hb2 => h7 b _ e hDb (Array.getElem?_eq_getElem hbl) he hb2) i this] at g1
          cases g1
      have hagree : Agree rc (fold uS (fun x => decide (x < 0 + i)) 0 rcs sl) (fold uS D 0 rcs sl) (fold uH (fun x => decide (x < 0 + i)) 0 rcs hp) (fold uH D 0 rcs hp) := by
        have diff : ∀ (b : Nat) rb, rcs[b]? = some rb → D (0 + b) ≠ decide (0 + b < 0 + i) → (b < i ∧ D b = false) ∨ (i < b ∧ D b = true) ∨ b = i := by
          intro b rb _ hne
          rw [Nat.zero_add] at hne
          rcases Nat.lt_trichotomy b i with h | h | h
          · left; refine ⟨h, ?_⟩; cases hDb : D b with
            | false => rfl
            | true => simp [hDb, h] at hne
          · exact .inr (.inr h)
          · right; left; refine ⟨h, ?_⟩; cases hDb : D b with
            | true => rfl
            | false => simp [hDb] at hne; omega
        unfold Agree
        split
        · rename_i hbar
          have no : ∀ (b : Nat) rb, rcs[b]? = some rb → D (0 + b) ≠ decide (0 + b < 0 + i) → False := by
            intro b rb hb hne
            rcases diff b rb hb hne with ⟨h1, h2⟩ | ⟨h1, h2⟩ | rfl
            · have := before b rb hb h1 h2
              simp [clash, hbar] at this
            · have := behind b rb hb h1 h2
              simp [clash, hbar] at this
            · simp [g1] at hne
          exact ⟨funext fun t => fold_congr upS rcs 0 sl sl rfl fun b rb hb hne => (no b rb hb hne).elim, funext fun t => fold_congr upH rcs 0 hp hp rfl fun b rb hb hne => (no b rb hb hne).elim⟩
        · refine ⟨fun t ht => fold_congr upS rcs 0 sl sl rfl fun b rb hb hne hmem => ?_, fun t ht => fold_congr upH rcs 0 hp hp rfl fun b rb hb hne hmem => ?_⟩
          · rcases diff b rb hb hne with ⟨h1, h2⟩ | ⟨h1, h2⟩ | rfl
            · have := before b rb hb h1 h2
              simp only [clash, Bool.or_eq_false_iff] at this
              exact meets_not this.1.1.1.2 hmem (by rw [app_eq]; exact List.mem_append_left _ ht)
            · have := behind b rb hb h1 h2
              simp only [clash, Bool.or_eq_false_iff] at this
              exact meets_not this.1.1.2 ht hmem
            · simp [g1] at hne
          · rcases diff b rb hb hne with ⟨h1, h2⟩ | ⟨h1, h2⟩ | rfl
            · have := before b rb hb h1 h2
              simp only [clash, Bool.or_eq_false_iff] at this
              exact meets_not this.1.2 hmem (by rw [app_eq]; exact List.mem_append_left _ ht)
            · have := behind b rb hb h1 h2
              simp only [clash, Bool.or_eq_false_iff] at this
              exact meets_not this.2 ht hmem
            · simp [g1] at hne
      have hmore1 : fold uS (fun x => x == i || D x) 0 rcs sl = uS (fold uS D 0 rcs sl) rc := fold_more upS hrc fun b rb hb hlt hDb t ht hmem => by
        have := behind b rb hb hlt hDb
        simp only [clash, Bool.or_eq_false_iff] at this
        exact meets_not this.1.1.1.2 ht (by rw [app_eq]; exact List.mem_append_right _ hmem)
      have hmore2 : fold uH (fun x => x == i || D x) 0 rcs hp = uH (fold uH D 0 rcs hp) rc := fold_more upH hrc fun b rb hb hlt hDb t ht hmem => by
        have := behind b rb hb hlt hDb
        simp only [clash, Bool.or_eq_false_iff] at this
        exact meets_not this.1.2 ht (by rw [app_eq]; exact List.mem_append_right _ hmem)
      refine wpOp_of ho (hat i o rc (by simpa using ho) hrc _ _ hagree B cx a w Q _ hB hs fun cx' a' w' hs' => ?_)
      refine ih (todo.erase i) _ (fun x => x == i || D x) ?_ (h2.erase i) (by simpa using h3) (fun x => ?_) (fun x hx => ?_) (fun x hx => ?_) (fun x ox e hx hox he hb => ?_) cx' a' w' ?_
      · rw [List.length_erase_of_mem ((h4 i).2 ⟨hil, g1⟩), h1]; rfl
      · rw [h2.mem_erase_iff, h4 x]
        simp only [Bool.or_eq_false_iff, beq_eq_false_iff_ne, ne_eq]
        exact ⟨fun ⟨h1, h2, h3⟩ => ⟨h2, h1, h3⟩, fun ⟨h1, h2, h3⟩ => ⟨h2, h1, h3⟩⟩
      · by_cases hxi : x = i
        · subst hxi
          have : x < listed.size := by omega
          simp [this]
        · rw [getD_set_ne true (Ne.symm hxi), getD_set_ne false (Ne.symm hxi), (h5 x hx).1, (h5 x hx).2]
          simp [hxi]
      · simp only [Bool.or_eq_false_iff, beq_eq_false_iff_ne, ne_eq]
        exact ⟨by omega, h6 x hx⟩
      · simp only [Bool.or_eq_true, beq_iff_eq] at hx ⊢
        rcases hx with rfl | hx
        · rw [ho] at hox; cases hox
          exact .inr (g3 e he hb)
        · exact .inr (h7 x ox e hx hox he hb)
      · rw [hmore1, hmore2]; exact hs'

theorem lk_cons_if (t : Nat) (s : SV) (e : List (Nat × SV)) (i : Nat) : lk ((t, s) :: e) i = if i = t then some s else lk e i := by rw [lk_cons]
theorem prune_sound {T0 : Nat} : ∀ {e seen : List (Nat × SV)} {K : List (Nat × SV) → Prop}, prune T0 e seen K → ∃ e', (∀ t s, lk e' t = some s → t < T0 ∧ lk seen t = none ∧ lk e t = some s) ∧ K e'
  | [], seen, K, h => ⟨[], fun _ _ h => (by cases h), h⟩
  | (t, s) :: r, seen, K, h => by
    simp only [prune] at h
    split at h
    · rename_i hlt
      have hlt : t < T0 := by simpa using hlt
      split at h
      · rename_i s0 hs0
        obtain ⟨e', h1, h2⟩ := prune_sound h
        refine ⟨e', fun t' s' h3 => ?_, h2⟩
        obtain ⟨g1, g2, g3⟩ := h1 t' s' h3
        refine ⟨g1, g2, ?_⟩
        rw [lk_cons_if, if_neg (fun e => by subst e; rw [hs0] at g2; cases g2)]
        exact g3
      · rename_i hs0
        obtain ⟨e', h1, h2⟩ := prune_sound h
        refine ⟨_, fun t' s' h3 => ?_, h2⟩
        rw [lk_cons_if] at h3 ⊢
        split at h3
        · rename_i he; subst he; cases h3
          exact ⟨hlt, hs0, by simp⟩
        · rename_i he
          obtain ⟨g1, g2, g3⟩ := h1 t' s' h3
          rw [lk_cons_if, if_neg he] at g2
          rw [if_neg he]
          exact ⟨g1, g2, g3⟩
    · rename_i hlt
      have hlt : ¬ t < T0 := fun h => by
        have : Nat.blt t T0 = true := by simpa using h
        rw [this] at hlt; cases hlt
      obtain ⟨e', h1, h2⟩ := prune_sound h
      refine ⟨e', fun t' s' h3 => ?_, h2⟩
      obtain ⟨g1, g2, g3⟩ := h1 t' s' h3
      refine ⟨g1, g2, ?_⟩
      rw [lk_cons_if, if_neg (fun (e : t' = t) => hlt (e ▸ g1))]
      exact g3
theorem SatF.less {B cx sl sl' hp a w} (h : SatF B cx sl hp a w) (hl : ∀ t s, sl' t = some s → sl t = some s) : SatF B cx sl' hp a w :=
  ⟨h.df, h.sz, fun t s hs => h.sl t s (hl t s hs), h.mem, h.fr⟩
end
end Go.Fw
