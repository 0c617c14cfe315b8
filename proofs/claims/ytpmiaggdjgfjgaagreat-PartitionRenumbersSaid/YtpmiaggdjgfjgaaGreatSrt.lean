/- The makers' tape: New, Next, Mod. -/
import Derived.Test.YtpmiaggdjgfjgaaGreatTT

namespace Go.Fw
set_option maxRecDepth 4000
open Go.Proofs
set_option maxHeartbeats 4000000
def int (x : Int) : SV := .v (.int .i64 x)
abbrev ints (l : List Int) : List SV := lst int l
def bool (b : Bool) : SV := .v (.bool b)
theorem int_mk (x : Int) : SV.v (.int .i64 x) = int x := rfl
theorem bool_mk (b : Bool) : SV.v (.bool b) = bool b := rfl
theorem ints_len (l : List Int) : (ints l).length = l.length := by simp [ints, lst, lst]
def tape (l : List Int) (at_ : Int) : SV := .agg [.fs .no 1 (ints l), .v (.int .i64 at_)]
theorem wrap64_id {x : Int} (h : -9223372036854775808 ≤ x ∧ x ≤ 9223372036854775807) : IntKind.wrap .i64 x = x := by
  simp [IntKind.wrap, IntKind.bits, IntKind.signed]; omega
theorem inc64 (k : Nat) (h : k < 9223372036854775807) : IntKind.wrap .i64 ((k : Int) + 1) = ((k + 1 : Nat) : Int) := by
  rw [wrap64_id (by omega)]; omega
theorem tmod_low {x n : Int} (hn : 0 < n) (h : x.tmod n < 0) : -n < x.tmod n := by
  have := Int.lt_tmod_of_pos x hn; omega
/-- What a number stands for below n. -/
def modV (v n : Int) : Int := if v.tmod n < 0 then v.tmod n + n else v.tmod n
theorem modV_range {v n : Int} (hn : 0 < n) : 0 ≤ modV v n ∧ modV v n < n := by
  unfold modV
  have := Int.tmod_lt_of_pos v hn
  split
  · have := tmod_low hn (by assumption); omega
  · omega
theorem k_made_New (l : List Int) : Con Tryz.prog 6 [.fs .no 1 (ints l)] [] (.pb 0 []) [.cells (tape (l.take 400) 0)] := by
  refine spec_of_run ttok mixed (T0 := 37) (ts := [.tmp 2]) 11 rfl rfl rfl rfl (by simp) rfl ?_
  conv => whnf
  by_cases hl : l.length > 400
  · repeat' (first | with_reducible apply True.intro | ((apply Same.rfl); conv => whnf) | ((first | ((with_reducible apply Nm.mk); focus ((try simp only [lns]); exact rfl)) | ((with_reducible apply Need.mk); focus (simp only [lns]; omega)) | ((with_reducible apply Bif.dec) <;> intro h <;> (try simp only [lns] at h) <;> (try (exfalso; omega))) | (with_reducible apply Frz.l)) <;> conv => whnf) | fail)
  · have e : l.take 400 = l := List.take_of_length_le (by omega)
    rw [e]
    repeat' (first | with_reducible apply True.intro | ((apply Same.rfl); conv => whnf) | ((first | ((with_reducible apply Nm.mk); focus ((try simp only [lns]); exact rfl)) | ((with_reducible apply Bif.dec) <;> intro h <;> (try simp only [lns] at h) <;> (try (exfalso; omega))) | (with_reducible apply Frz.l)) <;> conv => whnf) | fail)
def tapeV (l : List Int) (k n : Int) : Int := if k ≥ l.length then 0 else modV (l.getD k.toNat 0) n
def tapeK (l : List Int) (k : Int) : Int := if k ≥ l.length then k else k + 1
theorem k_tape_Next' (l : List Int) (k n : Int) (hk : 0 ≤ k) (hl : l.length ≤ 400) (hn : 0 < n ∧ n < 9223372036854775808) : Con Tryz.prog 12 [.pb 0 [], .v (.int .i64 n)] [.cells (tape l k)] (.v (.int .i64 (tapeV l k n))) [.cells (tape l (tapeK l k))] := by
  refine spec_of_run ttok mixed (T0 := 68719509555) (ts := [.tmp 4]) 41 rfl rfl rfl rfl (by simp) rfl ?_
  conv => whnf
  by_cases hg : k ≥ l.length
  · have e1 : tapeV l k n = 0 := by simp [tapeV, hg]
    have e2 : tapeK l k = k := by simp [tapeK, hg]
    rw [e1, e2]
    repeat' (first | with_reducible apply True.intro | ((apply Same.rfl); conv => whnf) | ((first | ((with_reducible apply Nm.mk); focus ((try simp only [lns]); exact rfl)) | ((with_reducible apply Need.mk); focus kernel_rfl) | ((with_reducible apply Bif.dec) <;> intro h <;> (try simp only [lns] at h) <;> (try (exfalso; omega))) | (with_reducible apply Frz.l)) <;> conv => whnf) | fail)
  · have e0 : gt l k.toNat = l.getD k.toNat 0 := rfl
    have e2 : tapeK l k = k + 1 := by rw [tapeK, if_neg hg]
    rw [e2]
    by_cases h3 : (gt l k.toNat).tmod n < 0
    · have h4 := tmod_low hn.1 h3
      have e1 : tapeV l k n = (gt l k.toNat).tmod n + n := by rw [tapeV, if_neg hg, modV, ← e0, if_pos h3]
      rw [e1]
      repeat' (first | with_reducible apply True.intro | ((apply Same.rfl); conv => whnf) | ((first | ((with_reducible apply Nm.mk); focus ((try simp only [lns]); exact rfl)) | ((with_reducible apply Wr.i64); focus omega) | ((with_reducible apply Need.mk); focus first | omega | (simp only [lns]; omega) | kernel_rfl) | ((with_reducible apply Elem.lst); focus omega) | ((with_reducible apply Bif.dec) <;> intro h <;> (try simp only [lns] at h) <;> (try (exfalso; omega))) | (with_reducible apply Frz.l)) <;> conv => whnf) | fail)
    · have e1 : tapeV l k n = (gt l k.toNat).tmod n := by rw [tapeV, if_neg hg, modV, ← e0, if_neg h3]
      rw [e1]
      repeat' (first | with_reducible apply True.intro | ((apply Same.rfl); conv => whnf) | ((first | ((with_reducible apply Nm.mk); focus ((try simp only [lns]); exact rfl)) | ((with_reducible apply Wr.i64); focus omega) | ((with_reducible apply Need.mk); focus first | omega | (simp only [lns]; omega) | kernel_rfl) | ((with_reducible apply Elem.lst); focus omega) | ((with_reducible apply Bif.dec) <;> intro h <;> (try simp only [lns] at h) <;> (try (exfalso; omega))) | (with_reducible apply Frz.l)) <;> conv => whnf) | fail)
/-- A number of the tape, from lo to hi - 1; the tape has gone on. -/
def TapeInt (l : List Int) (lo hi : Int) (r : SV) (hp' : List OB) : Prop := ∃ x k' : Int, r = .v (.int .i64 x) ∧ hp' = [.cells (tape l k')] ∧ lo ≤ x ∧ x < hi ∧ 0 ≤ k'
theorem k_tape_Next (l : List Int) (k n : Int) (hk : 0 ≤ k) (hl : l.length ≤ 400) (hn : 0 < n ∧ n < 9223372036854775808) :
    ∃ r hp', TapeInt l 0 n r hp' ∧ Con Tryz.prog 12 [.pb 0 [], .v (.int .i64 n)] [.cells (tape l k)] r hp' := by
  refine ⟨_, _, ⟨_, _, rfl, rfl, ?_⟩, k_tape_Next' l k n hk hl hn⟩
  have := modV_range (v := l.getD k.toNat 0) hn.1
  unfold tapeV tapeK
  split <;> omega
end Go.Fw

/- Plain laws of lists: where the first such element is, what is left behind a search. -/
namespace Go.Fw
set_option maxRecDepth 4000
section
variable {α : Type} [Inhabited α]
def idxF (p : α → Bool) (l : List α) : Int := match l.findIdx? p with | some i => (i : Int) | none => -1
theorem idxF_some {p : α → Bool} {l : List α} {k : Nat} (hk : k < l.length) (hp : p (gt l k) = true) (h : ∀ j, j < k → p (gt l j) = false) : idxF p l = (k : Int) := by
  have : l.findIdx? p = some k := by
    rw [List.findIdx?_eq_some_iff_getElem]
    refine ⟨hk, by rw [← gt_eq hk]; exact hp, fun j hj => ?_⟩
    rw [← gt_eq (by omega)]
    simp [h j hj]
  rw [idxF, this]
theorem idxF_none {p : α → Bool} {l : List α} (h : ∀ j, j < l.length → p (gt l j) = false) : idxF p l = -1 := by
  have : l.findIdx? p = none := by
    rw [List.findIdx?_eq_none_iff]
    intro x hx
    obtain ⟨i, hi, rfl⟩ := List.getElem_of_mem hx
    rw [← gt_eq hi]
    simp [h i hi]
  rw [idxF, this]
theorem idxF_cases (p : α → Bool) (l : List α) : (idxF p l = -1 ∧ ∀ j, j < l.length → p (gt l j) = false) ∨ ∃ k, k < l.length ∧ idxF p l = (k : Int) ∧ p (gt l k) = true ∧ ∀ j, j < k → p (gt l j) = false := by
  cases h : l.findIdx? p with
  | none =>
    left
    refine ⟨by rw [idxF, h], fun j hj => ?_⟩
    rw [List.findIdx?_eq_none_iff] at h
    simpa using h _ (gt_mem hj)
  | some k =>
    right
    rw [List.findIdx?_eq_some_iff_getElem] at h
    obtain ⟨h1, h2, h3⟩ := h
    exact ⟨k, h1, idxF_some h1 (by rw [gt_eq h1]; exact h2) (fun j hj => by rw [gt_eq (by omega)]; simpa using h3 j hj), by rw [gt_eq h1]; exact h2, fun j hj => by rw [gt_eq (by omega)]; simpa using h3 j hj⟩
theorem filter_all {p : α → Bool} {l : List α} (h : ∀ j, j < l.length → p (gt l j) = true) : l.filter p = l := by
  rw [List.filter_eq_self]
  intro x hx
  obtain ⟨i, hi, rfl⟩ := List.getElem_of_mem hx
  rw [← gt_eq hi]; exact h i hi
theorem swap_mem {w : List α} {i j : Nat} (hi : i < w.length) (hj : j < w.length) {x : α} (h : x ∈ (w.set i (gt w j)).set j (gt w i)) : x ∈ w := by
  rcases List.mem_or_eq_of_mem_set h with h | rfl
  · rcases List.mem_or_eq_of_mem_set h with h | rfl
    · exact h
    · exact gt_mem hj
  · exact gt_mem hi
theorem filter_snoc {p : α → Bool} {l : List α} {j : Nat} (hj : j < l.length) : (l.take (j + 1)).filter p = (l.take j).filter p ++ if p (gt l j) = true then [gt l j] else [] := by
  rw [take_gt hj, List.filter_append]
  congr 1
  simp only [List.filter_cons, List.filter_nil]
/-- the state of DeleteFunc -/
structure Del (p : α → Bool) (l : List α) (i j : Nat) (w : List α) : Prop where
  len : w.length = l.length
  ij : i ≤ j
  jl : j ≤ l.length
  low : w.take i = (l.take j).filter (fun a => !p a)
  high : w.drop j = l.drop j
theorem Del.start {p : α → Bool} {l : List α} {k : Nat} (hk : k < l.length) (hp : p (gt l k) = true) (h : ∀ j, j < k → p (gt l j) = false) : Del p l k (k + 1) l :=
  ⟨rfl, by omega, by omega, by
    rw [filter_snoc hk]
    simp only [hp, Bool.not_true, Bool.false_eq_true, if_false, List.append_nil]
    rw [filter_all]
    intro j hj
    rw [List.length_take] at hj
    rw [gt_take (by omega), h j (by omega)]; rfl, rfl⟩
theorem Del.get {p : α → Bool} {l w : List α} {i j : Nat} (d : Del p l i j w) (hj : j < l.length) : gt w j = gt l j := by
  have : gt (w.drop j) 0 = gt (l.drop j) 0 := by rw [d.high]
  rwa [gt_drop, gt_drop] at this
omit [Inhabited α] in
theorem drop_next {l m : List α} {j : Nat} (h : l.drop j = m.drop j) : l.drop (j + 1) = m.drop (j + 1) := by
  rw [show j + 1 = j + 1 from rfl, ← List.drop_drop, ← List.drop_drop, h]
theorem Del.drop {p : α → Bool} {l w : List α} {i j : Nat} (d : Del p l i j w) (hj : j < l.length) (hp : p (gt l j) = true) : Del p l i (j + 1) w :=
  ⟨d.len, by have := d.ij; omega, hj, by rw [filter_snoc hj]; simp [hp, d.low], drop_next d.high⟩
theorem Del.keep {p : α → Bool} {l w : List α} {i j : Nat} (d : Del p l i j w) (hj : j < l.length) (hp : p (gt l j) = false) : Del p l (i + 1) (j + 1) (w.set i (gt l j)) := by
  have h1 := d.ij
  have h2 := d.len
  refine ⟨by simp [h2], by omega, hj, ?_, ?_⟩
  · rw [take_gt (by simp; omega), filter_snoc hj, gt_set (by omega), if_pos rfl]
    simp only [hp, Bool.not_false, if_true]
    congr 1
    rw [← d.low, List.take_set_of_le (Nat.le_refl i)]
  · rw [List.drop_set_of_lt (by omega)]; exact drop_next d.high
omit [Inhabited α] in
theorem Del.done {p : α → Bool} {l w : List α} {i : Nat} (d : Del p l i l.length w) : w.take i = l.filter (fun a => !p a) ∧ i = (l.filter (fun a => !p a)).length := by
  have h := d.low
  rw [List.take_length] at h
  refine ⟨h, ?_⟩
  rw [← h, List.length_take]
  have := d.ij; have := d.len; omega
/-- where a search ends -/
def bsA (c : α → Int) (l : List α) : Nat := (l.takeWhile fun a => decide (c a < 0)).length
def bsF (c : α → Int) (l : List α) : Bool := decide (bsA c l < l.length) && (c (gt l (bsA c l)) == 0)
theorem bsA_eq {c : α → Int} : ∀ {l : List α} {i : Nat}, i ≤ l.length → (∀ k, k < i → c (gt l k) < 0) → (i < l.length → ¬ c (gt l i) < 0) → bsA c l = i
  | [], i, h, _, _ => by simp at h; subst h; rfl
  | a :: l, 0, _, _, h2 => by
    have : ¬ c a < 0 := h2 (by simp)
    simp [bsA, List.takeWhile_cons, this]
  | a :: l, i + 1, h, h1, h2 => by
    have h0 : c a < 0 := h1 0 (by omega)
    have ih := bsA_eq (c := c) (l := l) (i := i) (by simpa using h) (fun k hk => by have := h1 (k + 1) (by omega); simpa [gt] using this) (fun hi => by have := h2 (by simpa using hi); simpa [gt] using this)
    simp only [bsA] at ih ⊢
    simp [List.takeWhile_cons, h0, ih]
end
theorem Wr.half {x : Int} {n : Nat} {K : Int → Prop} (k : K ((x.toNat / 2 : Nat) : Int)) (h : 0 ≤ x ∧ x ≤ 9223372036854775807) (hn : n = 1 := by rfl) : Wr .i64 (x.fdiv (2 ^ n)) K := by
  subst hn
  have e : x.fdiv (2 ^ 1) = ((x.toNat / 2 : Nat) : Int) := by
    rw [Int.fdiv_eq_ediv_of_nonneg _ (by omega)]
    omega
  rw [e]
  exact Wr.i64 (by omega) k
theorem Ex2.mk {R O : SV → List OB → Prop} (r : SV) (hp : List OB) (o : O r hp) (h : R r hp) : ∃ r hp', R r hp' ∧ O r hp' := ⟨r, hp, h, o⟩
/-! What slices.Insert makes -/
section
variable {α : Type} {rows js : List α} {a z : α} {i A B : Nat}
theorem ins1 (hi : i < rows.length) (hj : 1 ≤ js.length) (hA : A = rows.length - i) (hB : B = rows.length + 1 - i) :
    List.take (i + 1) (rows ++ js) ++ List.take A (List.take B (List.drop i (rows ++ js))) ++ List.drop (i + 1 + (List.take A (List.take B (List.drop i (rows ++ js)))).length) (rows ++ js) = rows.take (i + 1) ++ rows.drop i ++ js.drop 1 := by
  subst hA hB; (apply List.ext_getElem?; intro kk; simp only [List.getElem?_append, List.getElem?_take, List.getElem?_drop, List.getElem?_replicate, List.length_append, List.length_take, List.length_drop, List.length_replicate, List.length_cons, List.length_nil, List.getElem?_cons, List.getElem?_nil]; repeat' (split <;> try (exfalso; omega))) <;> first | rfl | (congr 1; omega) | (symm; apply List.getElem?_eq_none; omega) | (apply List.getElem?_eq_none; omega) | (congr 2; omega) | (simp; omega)
theorem ins2 (hi : i < rows.length) (hA : 1 ≤ A) :
    List.take i (rows.take (i + 1) ++ rows.drop i ++ js.drop 1) ++ List.take A [a] ++ List.drop (i + (List.take A [a]).length) (rows.take (i + 1) ++ rows.drop i ++ js.drop 1) = rows.take i ++ [a] ++ rows.drop i ++ js.drop 1 := by
  rw [List.take_of_length_le (l := [a]) (by simpa using hA)]; (apply List.ext_getElem?; intro kk; simp only [List.getElem?_append, List.getElem?_take, List.getElem?_drop, List.getElem?_replicate, List.length_append, List.length_take, List.length_drop, List.length_replicate, List.length_cons, List.length_nil, List.getElem?_cons, List.getElem?_nil]; repeat' (split <;> try (exfalso; omega))) <;> first | rfl | (congr 1; omega) | (symm; apply List.getElem?_eq_none; omega) | (apply List.getElem?_eq_none; omega) | (congr 2; omega) | (simp; omega)
theorem ins3 (hi : i ≤ rows.length) : List.take (List.take i rows ++ [a] ++ List.drop i rows).length (rows.take i ++ [a] ++ rows.drop i ++ js) = List.take i rows ++ [a] ++ List.drop i rows := by
  rw [List.take_append_of_le_length (Nat.le_refl _), List.take_length]
theorem ins4 (hi : i < rows.length) (hA : 1 ≤ A) (hB : B = rows.length + 1 - i) :
    List.take i (rows.take i ++ List.replicate B z) ++ List.take A [a] ++ List.drop (i + (List.take A [a]).length) (rows.take i ++ List.replicate B z) = rows.take i ++ [a] ++ List.replicate (rows.length - i) z := by
  rw [List.take_of_length_le (l := [a]) (by simpa using hA)]; subst hB; (apply List.ext_getElem?; intro kk; simp only [List.getElem?_append, List.getElem?_take, List.getElem?_drop, List.getElem?_replicate, List.length_append, List.length_take, List.length_drop, List.length_replicate, List.length_cons, List.length_nil, List.getElem?_cons, List.getElem?_nil]; repeat' (split <;> try (exfalso; omega))) <;> first | rfl | (congr 1; omega) | (symm; apply List.getElem?_eq_none; omega) | (apply List.getElem?_eq_none; omega) | (congr 2; omega) | (simp; omega)
theorem ins5 (hi : i < rows.length) (hA : A = rows.length - i) (hB : B = rows.length - i) :
    List.take (i + 1) (rows.take i ++ [a] ++ List.replicate (rows.length - i) z) ++ List.take A (List.take B (List.drop i rows)) ++ List.drop (i + 1 + (List.take A (List.take B (List.drop i rows))).length) (rows.take i ++ [a] ++ List.replicate (rows.length - i) z) = List.take i rows ++ [a] ++ List.drop i rows := by
  subst hA hB; (apply List.ext_getElem?; intro kk; simp only [List.getElem?_append, List.getElem?_take, List.getElem?_drop, List.getElem?_replicate, List.length_append, List.length_take, List.length_drop, List.length_replicate, List.length_cons, List.length_nil, List.getElem?_cons, List.getElem?_nil]; repeat' (split <;> try (exfalso; omega))) <;> first | rfl | (congr 1; omega) | (symm; apply List.getElem?_eq_none; omega) | (apply List.getElem?_eq_none; omega) | (congr 2; omega) | (simp; omega)
end
theorem lst_splice {α : Type} {f : α → SV} {l : List α} {a b m : Nat} {z : SV} {Z : α} (h : z = f Z) : (lst f l).take a ++ List.replicate m z ++ (lst f l).drop b = lst f (l.take a ++ List.replicate m Z ++ l.drop b) := by
  subst h; simp [lst, List.map_take, List.map_drop]
theorem Nm.splice {α : Type} {f : α → SV} {l : List α} {a b m : Nat} {z : SV} {K : List SV → Prop} (Z : α) (h : z = f Z) (k : K (lst f (l.take a ++ List.replicate m Z ++ l.drop b))) : Nm ((lst f l).take a ++ List.replicate m z ++ (lst f l).drop b) K :=
  Nm.mk (lst_splice h) k
end Go.Fw

/- Plain law: lists that are sorted by a key, searched, set and inserted into. -/
namespace Go.Fw
set_option maxRecDepth 4000
structure CmpOK {β : Type} (cm : β → β → Int) : Prop where
  zero : ∀ {a b}, cm a b = 0 ↔ a = b
  anti : ∀ a b, cm a b = - cm b a
  trans : ∀ {a b c}, cm a b < 0 → cm b c < 0 → cm a c < 0
theorem bsA_lo {α : Type} [Inhabited α] {c : α → Int} : ∀ {l : List α} {k : Nat}, k < bsA c l → c (gt l k) < 0
  | [], k, h => by simp [bsA] at h
  | x :: l, k, h => by
    by_cases hx : c x < 0
    · cases k with
      | zero => exact hx
      | succ k =>
        have : k < bsA c l := by simpa [bsA, List.takeWhile_cons, hx] using h
        exact bsA_lo (l := l) this
    · simp [bsA, List.takeWhile_cons, hx] at h
theorem bsA_hi {α : Type} [Inhabited α] {c : α → Int} : ∀ {l : List α}, bsA c l < l.length → ¬ c (gt l (bsA c l)) < 0
  | [], h => by simp at h
  | x :: l, h => by
    by_cases hx : c x < 0
    · have e : bsA c (x :: l) = bsA c l + 1 := by simp [bsA, List.takeWhile_cons, hx]
      rw [e] at h ⊢
      exact bsA_hi (l := l) (by simpa using h)
    · have e : bsA c (x :: l) = 0 := by simp [bsA, List.takeWhile_cons, hx]
      rw [e]
      exact hx
theorem bsA_le {α : Type} [Inhabited α] (c : α → Int) (l : List α) : bsA c l ≤ l.length := (List.takeWhile_sublist _).length_le
theorem cut3 {α : Type} [Inhabited α] {l : List α} {k : Nat} (h : k < l.length) : l = l.take k ++ gt l k :: l.drop (k + 1) := by
  rw [← drop_gt h, List.take_append_drop]
section
variable {α β : Type} [Inhabited α] {cm : β → β → Int} {κ : α → β}
/-- A list of at most n good elements in the order of their keys. -/
def okL (n : Nat) (ok : α → Bool) (cm : β → β → Int) (κ : α → β) (l : List α) : Bool :=
  decide (l.length ≤ n ∧ ∀ i, i < l.length → ok (gt l i) = true ∧ (0 < i → cm (κ (gt l (i - 1))) (κ (gt l i)) < 0))
variable {n : Nat} {ok : α → Bool}
theorem okL_len {l : List α} (h : okL n ok cm κ l = true) : l.length ≤ n := by rw [okL, decide_eq_true_eq] at h; exact h.1
theorem okL_ok {l : List α} (h : okL n ok cm κ l = true) {i : Nat} (hi : i < l.length) : ok (gt l i) = true := by rw [okL, decide_eq_true_eq] at h; exact (h.2 i hi).1
theorem okL_long {l : List α} (h : n < l.length) : false = okL n ok cm κ l := by symm; rw [okL, decide_eq_false_iff_not]; omega
theorem okL_ff {l : List α} {i : Nat} (hi : i < l.length) (h : ¬ (ok (gt l i) = true ∧ (0 < i → cm (κ (gt l (i - 1))) (κ (gt l i)) < 0))) : false = okL n ok cm κ l := by
  symm
  rw [okL, decide_eq_false_iff_not]
  exact fun ⟨_, g⟩ => h (g i hi)
theorem okL_tt {l : List α} (h : l.length ≤ n) (g : ∀ i, i < l.length → ok (gt l i) = true ∧ (0 < i → cm (κ (gt l (i - 1))) (κ (gt l i)) < 0)) : true = okL n ok cm κ l := by
  symm
  rw [okL, decide_eq_true_eq]
  exact ⟨h, g⟩
theorem okL_lt (C : CmpOK cm) {l : List α} (h : okL n ok cm κ l = true) {i j : Nat} (hij : i < j) (hj : j < l.length) : cm (κ (gt l i)) (κ (gt l j)) < 0 := by
  rw [okL, decide_eq_true_eq] at h
  obtain ⟨d, rfl⟩ : ∃ d, j = i + 1 + d := ⟨j - (i + 1), by omega⟩
  clear hij
  induction d with
  | zero => exact (h.2 (i + 1) (by omega)).2 (by omega)
  | succ d ih => exact C.trans (ih (by omega)) ((h.2 (i + 1 + (d + 1)) (by omega)).2 (by omega))
/-- Where a key stands, or belongs. -/
def atK (cm : β → β → Int) (κ : α → β) (l : List α) (t : β) : Nat := bsA (fun a => cm (κ a) t) l
def fndK (cm : β → β → Int) (κ : α → β) (l : List α) (t : β) : Bool := bsF (fun a => cm (κ a) t) l
theorem atK_le (l : List α) (t : β) : atK cm κ l t ≤ l.length := bsA_le _ l
theorem atK_lo {l : List α} {t : β} {i : Nat} (h : i < atK cm κ l t) : cm (κ (gt l i)) t < 0 := bsA_lo (c := fun a => cm (κ a) t) h
theorem atK_ge {l : List α} {t : β} (h : atK cm κ l t < l.length) : ¬ cm (κ (gt l (atK cm κ l t))) t < 0 := bsA_hi (c := fun a => cm (κ a) t) h
theorem fndK_iff (C : CmpOK cm) {l : List α} {t : β} : fndK cm κ l t = true ↔ atK cm κ l t < l.length ∧ κ (gt l (atK cm κ l t)) = t := by
  show (decide (atK cm κ l t < l.length) && (cm (κ (gt l (atK cm κ l t))) t == 0)) = true ↔ _
  simp only [Bool.and_eq_true, decide_eq_true_eq, beq_iff_eq, C.zero]
theorem atK_hi (C : CmpOK cm) {l : List α} {t : β} (h : okL n ok cm κ l = true) {i : Nat} (hi : atK cm κ l t < i) (hl : i < l.length) : 0 < cm (κ (gt l i)) t := by
  have h1 := atK_ge (cm := cm) (κ := κ) (l := l) (t := t) (by omega)
  have h2 := okL_lt C h hi hl
  have h3 := C.anti (κ (gt l i)) t
  rcases Int.lt_trichotomy 0 (cm (κ (gt l (atK cm κ l t))) t) with h4 | h4 | h4
  · have h5 := C.anti (κ (gt l (atK cm κ l t))) t
    have := C.trans (a := t) (b := κ (gt l (atK cm κ l t))) (c := κ (gt l i)) (by omega) h2
    omega
  · rw [C.zero.1 h4.symm] at h2
    omega
  · omega
theorem atK_pos (C : CmpOK cm) {l : List α} {t : β} (hf : fndK cm κ l t = false) (hl : atK cm κ l t < l.length) : 0 < cm (κ (gt l (atK cm κ l t))) t := by
  have h1 := atK_ge (cm := cm) (κ := κ) hl
  have h2 : ¬ (cm (κ (gt l (atK cm κ l t))) t = 0) := fun h => by
    have := (fndK_iff C).2 ⟨hl, C.zero.1 h⟩
    rw [hf] at this; cases this
  omega
theorem mono_key (C : CmpOK cm) {l : List α} {t : β} (h : okL n ok cm κ l = true) : ∀ i j, i ≤ j → j < l.length → cm (κ (gt l j)) t < 0 → cm (κ (gt l i)) t < 0 := fun i j hij hj hc => by
  rcases Nat.lt_or_ge i j with h1 | h1
  · exact C.trans (okL_lt C h h1 hj) hc
  · rw [show i = j by omega]; exact hc
theorem key_other (C : CmpOK cm) {l : List α} {t : β} (h : okL n ok cm κ l = true) {i : Nat} (hi : i < l.length) (he : κ (gt l i) = t) : i = atK cm κ l t := by
  have h0 : cm (κ (gt l i)) t = 0 := C.zero.2 he
  rcases Nat.lt_trichotomy i (atK cm κ l t) with h1 | h1 | h1
  · have := atK_lo (cm := cm) (κ := κ) h1; omega
  · exact h1
  · have := atK_hi C h h1 hi; omega
/-- Set where the key stands. -/
theorem okL_set (C : CmpOK cm) {l : List α} {x : α} (h : okL n ok cm κ l = true) (hf : fndK cm κ l (κ x) = true) (hx : ok x = true) : okL n ok cm κ (l.set (atK cm κ l (κ x)) x) = true := by
  obtain ⟨h1, h2⟩ := (fndK_iff C).1 hf
  generalize atK cm κ l (κ x) = a at h1 h2
  symm
  refine okL_tt (by rw [List.length_set]; exact okL_len h) fun i hi => ?_
  rw [List.length_set] at hi
  have key : ∀ j, j < l.length → κ (gt (l.set a x) j) = κ (gt l j) := fun j hj => by
    rw [gt_set h1]
    split
    · rename_i e; rw [e, h2]
    · rfl
  refine ⟨?_, fun h0 => ?_⟩
  · rw [gt_set h1]
    split
    · exact hx
    · exact okL_ok h hi
  · rw [key _ (by omega), key _ hi]
    exact okL_lt C h (by omega) hi
/-- Inserted where the key belongs. -/
theorem okL_ins (C : CmpOK cm) {l : List α} {x : α} (h : okL n ok cm κ l = true) (hf : fndK cm κ l (κ x) = false) (hx : ok x = true) (hn : l.length < n) :
    okL n ok cm κ (l.take (atK cm κ l (κ x)) ++ [x] ++ l.drop (atK cm κ l (κ x))) = true := by
  have hle := atK_le (cm := cm) (κ := κ) l (κ x)
  have lo : ∀ i, i < atK cm κ l (κ x) → cm (κ (gt l i)) (κ x) < 0 := fun i hi => atK_lo hi
  have hi' : ∀ i, atK cm κ l (κ x) ≤ i → i < l.length → cm (κ x) (κ (gt l i)) < 0 := fun i h1 h2 => by
    have h3 := C.anti (κ x) (κ (gt l i))
    rcases Nat.eq_or_lt_of_le h1 with e | e
    · have := atK_pos C hf (by omega); rw [e] at this; omega
    · have := atK_hi C h e h2; omega
  generalize atK cm κ l (κ x) = a at hle lo hi'
  have hL : (l.take a ++ [x] ++ l.drop a).length = l.length + 1 := by simp; omega
  have hg : ∀ i, gt (l.take a ++ [x] ++ l.drop a) i = if i < a then gt l i else if i = a then x else gt l (i - 1) := fun i => by
    rw [gt_app, gt_app]
    simp only [List.length_append, List.length_take, List.length_cons, List.length_nil, Nat.min_eq_left hle]
    by_cases h1 : i < a
    · rw [if_pos (by omega), if_pos h1, if_pos h1, gt_take h1]
    · by_cases h2 : i = a
      · rw [if_pos (by omega), if_neg h1, if_neg h1, if_pos h2, h2, Nat.sub_self]; rfl
      · rw [if_neg (by omega), if_neg h1, if_neg h2, gt_drop]
        congr 1; omega
  symm
  refine okL_tt (by omega) fun i hi => ?_
  rw [hL] at hi
  refine ⟨?_, fun h0 => ?_⟩
  · rw [hg]
    split
    · exact okL_ok h (by omega)
    · split
      · exact hx
      · exact okL_ok h (by omega)
  · rw [hg, hg]
    by_cases h1 : i < a
    · rw [if_pos (by omega), if_pos h1]; exact okL_lt C h (by omega) (by omega)
    · by_cases h2 : i = a
      · rw [if_pos (by omega), if_neg h1, if_pos h2]; exact lo _ (by omega)
      · rw [if_neg h1, if_neg h2]
        by_cases h3 : i - 1 = a
        · rw [if_neg (by omega), if_pos h3]; exact hi' _ (by omega) (by omega)
        · rw [if_neg (by omega), if_neg h3]; exact okL_lt C h (by omega) (by omega)
/-- Part of it. -/
theorem okL_sub {l m : List α} (C : CmpOK cm) (h : okL n ok cm κ l = true) (hs : m.Sublist l) : okL n ok cm κ m = true := by
  have pw : l.Pairwise fun a b => cm (κ a) (κ b) < 0 := by
    rw [List.pairwise_iff_getElem]
    intro i j hi hj hij
    rw [← gt_eq hi, ← gt_eq hj]
    exact okL_lt C h hij hj
  have pm := pw.sublist hs
  symm
  refine okL_tt (Nat.le_trans hs.length_le (okL_len h)) fun i hi => ⟨?_, fun h0 => ?_⟩
  · obtain ⟨j, hj, e⟩ := List.getElem_of_mem (hs.subset (gt_mem hi))
    rw [← e, ← gt_eq hj]
    exact okL_ok h hj
  · rw [List.pairwise_iff_getElem] at pm
    rw [gt_eq (by omega), gt_eq hi]
    exact pm _ _ (by omega) hi (by omega)
end
end Go.Fw

/- Plain law of sorting in place: ranges that are sorted, rotated, merged. -/
namespace Go.Fw
set_option maxRecDepth 4000
section
variable {α : Type} [Inhabited α]
def swapL (l : List α) (i j : Nat) : List α := (l.set i (gt l j)).set j (gt l i)
theorem swapL_len (l : List α) (i j : Nat) : (swapL l i j).length = l.length := by simp [swapL]
theorem swapL_gt {l : List α} {i j : Nat} (hi : i < l.length) (hj : j < l.length) (x : Nat) : gt (swapL l i j) x = if x = j then gt l i else if x = i then gt l j else gt l x := by
  unfold swapL
  rw [gt_set (by rw [List.length_set]; exact hj), gt_set hi]
/-- w holds in [a, b) what l holds there, in some order; elsewhere they agree. -/
structure Rng (l w : List α) (a b : Nat) : Prop where
  len : w.length = l.length
  out : ∀ i, i < a ∨ b ≤ i → gt w i = gt l i
  inn : ∀ i, a ≤ i → i < b → ∃ j, a ≤ j ∧ j < b ∧ gt w i = gt l j
  mem : ∀ x, x ∈ w ↔ x ∈ l
theorem Rng.refl (l : List α) (a b : Nat) : Rng l l a b := ⟨rfl, fun _ _ => rfl, fun i h1 h2 => ⟨i, h1, h2, rfl⟩, fun _ => Iff.rfl⟩
theorem Rng.trans {l w v : List α} {a b : Nat} (h : Rng l w a b) (g : Rng w v a b) : Rng l v a b :=
  ⟨g.len.trans h.len, fun i hi => (g.out i hi).trans (h.out i hi), fun i h1 h2 => by
    obtain ⟨j, j1, j2, j3⟩ := g.inn i h1 h2
    obtain ⟨k, k1, k2, k3⟩ := h.inn j j1 j2
    exact ⟨k, k1, k2, j3.trans k3⟩, fun x => (g.mem x).trans (h.mem x)⟩
theorem Rng.up {l w : List α} {a b a' b' : Nat} (h : Rng l w a b) (ha : a' ≤ a) (hb : b ≤ b') : Rng l w a' b' :=
  ⟨h.len, fun i hi => h.out i (by omega), fun i h1 h2 => by
    by_cases hi : a ≤ i ∧ i < b
    · obtain ⟨j, j1, j2, j3⟩ := h.inn i hi.1 hi.2
      exact ⟨j, by omega, by omega, j3⟩
    · exact ⟨i, h1, h2, h.out i (by omega)⟩, h.mem⟩
theorem mem_gt {l : List α} {x : α} (h : x ∈ l) : ∃ i, i < l.length ∧ gt l i = x := by
  obtain ⟨i, hi, rfl⟩ := List.getElem_of_mem h
  exact ⟨i, hi, gt_eq hi⟩
theorem Rng.swap {l : List α} {a b i j : Nat} (hi : a ≤ i ∧ i < b) (hj : a ≤ j ∧ j < b) (hb : b ≤ l.length) : Rng l (swapL l i j) a b := by
  have g := swapL_gt (l := l) (i := i) (j := j) (by omega) (by omega)
  refine ⟨swapL_len _ _ _, fun x hx => ?_, fun x h1 h2 => ?_, fun x => ⟨fun hx => ?_, fun hx => ?_⟩⟩
  · rw [g, if_neg (by omega), if_neg (by omega)]
  · rw [g]
    repeat' split
    · exact ⟨i, by omega, by omega, rfl⟩
    · exact ⟨j, by omega, by omega, rfl⟩
    · exact ⟨x, h1, h2, rfl⟩
  · obtain ⟨k, hk, rfl⟩ := mem_gt hx
    rw [swapL_len] at hk
    rw [g]
    repeat' split
    all_goals exact gt_mem (by omega)
  · obtain ⟨k, hk, rfl⟩ := mem_gt hx
    have key : ∃ y, y < l.length ∧ gt (swapL l i j) y = gt l k := by
      by_cases h1 : k = i
      · exact ⟨j, by omega, by rw [g, if_pos rfl, h1]⟩
      · by_cases h2 : k = j
        · refine ⟨i, by omega, ?_⟩
          rw [g]
          by_cases h3 : i = j
          · rw [if_pos h3]; congr 1; omega
          · rw [if_neg h3, if_pos rfl, h2]
        · exact ⟨k, hk, by rw [g, if_neg h2, if_neg h1]⟩
    obtain ⟨y, y1, y2⟩ := key
    rw [← y2]
    exact gt_mem (by rw [swapL_len]; exact y1)
/-- A total order up to 0. -/
structure PreOK (c : α → α → Int) : Prop where
  anti : ∀ x y, c x y = - c y x
  trans : ∀ {x y z}, c x y ≤ 0 → c y z ≤ 0 → c x z ≤ 0
variable {c : α → α → Int}
omit [Inhabited α] in
theorem CmpOK.pre (C : CmpOK c) : PreOK c := ⟨C.anti, fun {x y z} h g => by
  by_cases h1 : c x y < 0
  · by_cases h2 : c y z < 0
    · have := C.trans h1 h2; omega
    · have : y = z := C.zero.1 (by omega)
      subst this; exact h
  · have : x = y := C.zero.1 (by omega)
    subst this; exact g⟩
def Srt (c : α → α → Int) (l : List α) (a b : Nat) : Prop := ∀ i j, a ≤ i → i < j → j < b → c (gt l i) (gt l j) ≤ 0
theorem Srt.sub {l : List α} {a b a' b' : Nat} (h : Srt c l a b) (ha : a ≤ a') (hb : b' ≤ b) : Srt c l a' b' := fun i j h1 h2 h3 => h i j (by omega) h2 (by omega)
theorem Srt.small {l : List α} {a b : Nat} (h : b ≤ a + 1) : Srt c l a b := fun i j h1 h2 h3 => by omega
theorem Srt.same {l w : List α} {a b : Nat} (h : Srt c l a b) (e : ∀ i, a ≤ i → i < b → gt w i = gt l i) : Srt c w a b := fun i j h1 h2 h3 => by
  rw [e i h1 (by omega), e j (by omega) h3]; exact h i j h1 h2 h3
omit [Inhabited α] in
theorem PreOK.refl (C : PreOK c) (x : α) : c x x ≤ 0 := by have := C.anti x x; omega
omit [Inhabited α] in
theorem PreOK.lt_l (C : PreOK c) {x y z : α} (h : c x y ≤ 0) (g : c y z < 0) : c x z < 0 := by
  by_cases e : c x z < 0
  · exact e
  · have h1 := C.anti x z
    have h2 : c z y ≤ 0 := C.trans (by omega) h
    have h3 := C.anti z y
    omega
omit [Inhabited α] in
theorem PreOK.lt_r (C : PreOK c) {x y z : α} (h : c x y < 0) (g : c y z ≤ 0) : c x z < 0 := by
  by_cases e : c x z < 0
  · exact e
  · have h1 := C.anti x z
    have h2 : c y x ≤ 0 := C.trans g (by omega)
    have h3 := C.anti y x
    omega
/-- Sorted halves, the first nowhere above the second. -/
theorem Srt.join {l : List α} {a m b : Nat} (h1 : Srt c l a m) (h2 : Srt c l m b) (h : ∀ i j, a ≤ i → i < m → m ≤ j → j < b → c (gt l i) (gt l j) ≤ 0) : Srt c l a b := fun i j i1 i2 i3 => by
  by_cases e1 : j < m
  · exact h1 i j i1 i2 e1
  · by_cases e2 : m ≤ i
    · exact h2 i j e2 i2 i3
    · exact h i j i1 (by omega) (by omega) i3
/-! ### One pass of an insertion -/
/-- All pairs up to i are in order but those whose second one is j. -/
def InsJ (c : α → α → Int) (l : List α) (a i j : Nat) : Prop := a ≤ j ∧ j ≤ i ∧ ∀ x y, a ≤ x → x < y → y ≤ i → y ≠ j → c (gt l x) (gt l y) ≤ 0
theorem InsJ.start {l : List α} {a i : Nat} (h : Srt c l a i) (ha : a ≤ i) : InsJ c l a i i := ⟨ha, Nat.le_refl _, fun x y h1 h2 h3 h4 => h x y h1 h2 (by omega)⟩
theorem InsJ.step (C : PreOK c) {l : List α} {a i j : Nat} (h : InsJ c l a i j) (hj : a < j) (hl : i < l.length) (hc : c (gt l j) (gt l (j - 1)) < 0) : InsJ c (swapL l j (j - 1)) a i (j - 1) := by
  obtain ⟨h1, h2, h3⟩ := h
  have g := swapL_gt (l := l) (i := j) (j := j - 1) (by omega) (by omega)
  refine ⟨by omega, by omega, fun x y x1 x2 x3 x4 => ?_⟩
  rw [g, g]
  by_cases e1 : y = j
  · subst e1
    rw [if_neg (show ¬ y = y - 1 by omega), if_pos (rfl : y = y)]
    by_cases e2 : x = y - 1
    · rw [if_pos e2]; omega
    · rw [if_neg e2, if_neg (by omega)]
      exact h3 x (y - 1) x1 (by omega) (by omega) (by omega)
  · rw [if_neg x4, if_neg e1]
    by_cases e2 : x = j - 1
    · rw [if_pos e2]; exact h3 j y (by omega) (by omega) x3 e1
    · rw [if_neg e2]
      by_cases e3 : x = j
      · rw [if_pos e3]; exact h3 (j - 1) y (by omega) (by omega) x3 e1
      · rw [if_neg e3]; exact h3 x y x1 x2 x3 e1
theorem InsJ.stop (C : PreOK c) {l : List α} {a i j : Nat} (h : InsJ c l a i j) (hc : j = a ∨ ¬ c (gt l j) (gt l (j - 1)) < 0) : Srt c l a (i + 1) := fun x y x1 x2 x3 => by
  obtain ⟨h1, h2, h3⟩ := h
  by_cases e : y = j
  · subst e
    have h4 : c (gt l (y - 1)) (gt l y) ≤ 0 := by have := C.anti (gt l (y - 1)) (gt l y); omega
    by_cases e2 : x = y - 1
    · rw [e2]; exact h4
    · exact C.trans (h3 x (y - 1) x1 (by omega) (by omega) (by omega)) h4
  · exact h3 x y x1 x2 (by omega) e
/-! ### One element put into a sorted run -/
/-- The element at a has gone up to k. -/
def UpI (l w : List α) (a k : Nat) : Prop := w.length = l.length ∧ ∀ x, gt w x = if a ≤ x ∧ x < k then gt l (x + 1) else if x = k then gt l a else gt l x
theorem UpI.start (l : List α) (a : Nat) : UpI l l a a := ⟨rfl, fun x => by rw [if_neg (by omega)]; split <;> simp_all⟩
theorem UpI.step {l w : List α} {a k : Nat} (h : UpI l w a k) (ha : a ≤ k) (hk : k + 1 < l.length) : UpI l (swapL w k (k + 1)) a (k + 1) := by
  obtain ⟨h1, h2⟩ := h
  have g := swapL_gt (l := w) (i := k) (j := k + 1) (by omega) (by omega)
  refine ⟨by rw [swapL_len]; exact h1, fun x => ?_⟩
  rw [g, h2, h2, h2]
  by_cases e1 : x = k + 1
  · rw [if_pos e1, if_neg (by omega), if_pos rfl, if_neg (by omega), if_pos e1]
  · rw [if_neg e1]
    by_cases e2 : x = k
    · subst e2
      rw [if_pos rfl, if_neg (by omega), if_neg (by omega), if_pos ⟨by omega, by omega⟩]
    · rw [if_neg e2]
      by_cases e3 : a ≤ x ∧ x < k
      · rw [if_pos e3, if_pos ⟨by omega, by omega⟩]
      · rw [if_neg e3, if_neg e2, if_neg (by omega), if_neg e1]
theorem UpI.sorted (C : PreOK c) {l w : List α} {a i b : Nat} (h : UpI l w a (i - 1)) (hi : a + 1 ≤ i ∧ i ≤ b) (hs : Srt c l (a + 1) b) (lo : ∀ x, a + 1 ≤ x → x < i → c (gt l x) (gt l a) < 0) (hi2 : ∀ x, i ≤ x → x < b → ¬ c (gt l x) (gt l a) < 0) : Srt c w a b := by
  obtain ⟨_, h2⟩ := h
  intro x y x1 x2 x3
  rw [h2 x, h2 y]
  by_cases ex : x < i - 1
  · rw [if_pos ⟨x1, ex⟩]
    by_cases ey : y < i - 1
    · rw [if_pos ⟨by omega, ey⟩]; exact hs _ _ (by omega) (by omega) (by omega)
    · rw [if_neg (by omega)]
      by_cases ey2 : y = i - 1
      · rw [if_pos ey2]; have := lo (x + 1) (by omega) (by omega); omega
      · rw [if_neg ey2]; exact hs _ _ (by omega) (by omega) (by omega)
  · rw [if_neg (by omega)]
    rw [if_neg (show ¬ (a ≤ y ∧ y < i - 1) by omega), if_neg (show ¬ y = i - 1 by omega)]
    by_cases ex2 : x = i - 1
    · rw [if_pos ex2]
      have h5 := hi2 y (by omega) x3
      have := C.anti (gt l a) (gt l y)
      omega
    · rw [if_neg ex2]; exact hs _ _ (by omega) x2 x3
/-- The element at m has gone down to k. -/
def DnI (l w : List α) (m k : Nat) : Prop := w.length = l.length ∧ ∀ x, gt w x = if k < x ∧ x ≤ m then gt l (x - 1) else if x = k then gt l m else gt l x
theorem DnI.start (l : List α) (m : Nat) : DnI l l m m := ⟨rfl, fun x => by rw [if_neg (by omega)]; split <;> simp_all⟩
theorem DnI.step {l w : List α} {m k : Nat} (h : DnI l w m k) (hk : 0 < k ∧ k ≤ m) (hm : m < l.length) : DnI l (swapL w k (k - 1)) m (k - 1) := by
  obtain ⟨h1, h2⟩ := h
  have g := swapL_gt (l := w) (i := k) (j := k - 1) (by omega) (by omega)
  refine ⟨by rw [swapL_len]; exact h1, fun x => ?_⟩
  rw [g, h2, h2, h2]
  by_cases e1 : x = k - 1
  · rw [if_pos e1, if_neg (by omega), if_pos rfl, if_neg (by omega), if_pos e1]
  · rw [if_neg e1]
    by_cases e2 : x = k
    · subst e2
      rw [if_pos rfl, if_neg (by omega), if_neg (by omega), if_pos ⟨by omega, by omega⟩]
    · rw [if_neg e2]
      by_cases e3 : k < x ∧ x ≤ m
      · rw [if_pos e3, if_pos ⟨by omega, by omega⟩]
      · rw [if_neg e3, if_neg e2, if_neg (by omega), if_neg e1]
theorem DnI.sorted (C : PreOK c) {l w : List α} {a i m : Nat} (h : DnI l w m i) (hi : a ≤ i ∧ i ≤ m) (hs : Srt c l a m) (lo : ∀ x, a ≤ x → x < i → ¬ c (gt l m) (gt l x) < 0) (hi2 : ∀ x, i ≤ x → x < m → c (gt l m) (gt l x) < 0) : Srt c w a (m + 1) := by
  obtain ⟨_, h2⟩ := h
  intro x y x1 x2 x3
  rw [h2 x, h2 y]
  by_cases ey : i < y
  · rw [if_pos (show i < y ∧ y ≤ m by omega)]
    by_cases ex : i < x
    · rw [if_pos ⟨ex, by omega⟩]; exact hs _ _ (by omega) (by omega) (by omega)
    · rw [if_neg (by omega)]
      by_cases ex2 : x = i
      · rw [if_pos ex2]; have := hi2 (y - 1) (by omega) (by omega); omega
      · rw [if_neg ex2]; exact hs _ _ (by omega) (by omega) (by omega)
  · rw [if_neg (show ¬ (i < y ∧ y ≤ m) by omega), if_neg (show ¬ (i < x ∧ x ≤ m) by omega), if_neg (show ¬ x = i by omega)]
    by_cases ey2 : y = i
    · rw [if_pos ey2]
      have h5 := lo x x1 (by omega)
      have := C.anti (gt l x) (gt l m)
      omega
    · rw [if_neg ey2]; exact hs _ _ x1 x2 (by omega)
/-! ### Ranges that are swapped, rotated -/
/-- k of n elements at a and b have been swapped. -/
def SwpI (l w : List α) (a b k : Nat) : Prop := w.length = l.length ∧ ∀ x, gt w x = if a ≤ x ∧ x < a + k then gt l (b + (x - a)) else if b ≤ x ∧ x < b + k then gt l (a + (x - b)) else gt l x
theorem SwpI.start (l : List α) (a b : Nat) : SwpI l l a b 0 := ⟨rfl, fun x => by rw [if_neg (by omega), if_neg (by omega)]⟩
theorem SwpI.step {l w : List α} {a b n k : Nat} (h : SwpI l w a b k) (hab : a + n ≤ b) (hk : k < n) (hb : b + n ≤ l.length) : SwpI l (swapL w (a + k) (b + k)) a b (k + 1) := by
  obtain ⟨h1, h2⟩ := h
  have g := swapL_gt (l := w) (i := a + k) (j := b + k) (by omega) (by omega)
  refine ⟨by rw [swapL_len]; exact h1, fun x => ?_⟩
  rw [g, h2, h2, h2]
  by_cases e1 : x = b + k
  · subst e1
    rw [if_pos rfl, if_neg (by omega), if_neg (by omega), if_neg (by omega), if_pos ⟨by omega, by omega⟩]
    congr 1; omega
  · rw [if_neg e1]
    by_cases e2 : x = a + k
    · subst e2
      rw [if_pos rfl, if_neg (by omega), if_neg (by omega), if_pos ⟨by omega, by omega⟩]
      congr 1; omega
    · rw [if_neg e2]
      by_cases e3 : a ≤ x ∧ x < a + k
      · rw [if_pos e3, if_pos ⟨by omega, by omega⟩]
      · rw [if_neg e3, if_neg (show ¬ (a ≤ x ∧ x < a + (k + 1)) by omega)]
        by_cases e4 : b ≤ x ∧ x < b + k
        · rw [if_pos e4, if_pos ⟨by omega, by omega⟩]
        · rw [if_neg e4, if_neg (by omega)]
/-- [a, m) and [m, b) have changed places. -/
def Rot (l w : List α) (a m b : Nat) : Prop := w.length = l.length ∧ ∀ x, gt w x = if a ≤ x ∧ x < a + (b - m) then gt l (m + (x - a)) else if a + (b - m) ≤ x ∧ x < b then gt l (a + (x - (a + (b - m)))) else gt l x
/-- What is left to be rotated: i elements ahead of m, j behind it. -/
theorem Rot.left {l w v t : List α} {a m b i j : Nat} (hr : Rot l t a m b) (hw : ∀ x, gt t x = (if m - i ≤ x ∧ x < m - i + j then gt w (m + (x - (m - i))) else if m - i + j ≤ x ∧ x < m + j then gt w ((m - i) + (x - (m - i + j))) else gt w x))
    (hi : i ≤ m) (hij : j < i) (hv : SwpI w v (m - i) m j) : ∀ x, gt t x = (if m - (i - j) ≤ x ∧ x < m - (i - j) + j then gt v (m + (x - (m - (i - j)))) else if m - (i - j) + j ≤ x ∧ x < m + j then gt v ((m - (i - j)) + (x - (m - (i - j) + j))) else gt v x) := by
  intro x
  rw [hw]
  obtain ⟨_, hv⟩ := hv
  by_cases e1 : m - i ≤ x ∧ x < m - i + j
  · rw [if_pos e1, if_neg (by omega), if_neg (by omega), hv, if_pos e1]
  · rw [if_neg e1]
    by_cases e2 : m - i + j ≤ x ∧ x < m + j
    · rw [if_pos e2]
      by_cases e3 : x < m - (i - j) + j
      · rw [if_pos ⟨by omega, e3⟩, hv, if_neg (by omega), if_pos ⟨by omega, by omega⟩]
        congr 1; omega
      · rw [if_neg (by omega), if_pos ⟨by omega, by omega⟩, hv, if_neg (by omega), if_neg (by omega)]
        congr 1; omega
    · rw [if_neg e2, if_neg (by omega), if_neg (by omega), hv, if_neg e1, if_neg (by omega)]
theorem Rot.right {l w v t : List α} {a m b i j : Nat} (hr : Rot l t a m b) (hw : ∀ x, gt t x = (if m - i ≤ x ∧ x < m - i + j then gt w (m + (x - (m - i))) else if m - i + j ≤ x ∧ x < m + j then gt w ((m - i) + (x - (m - i + j))) else gt w x))
    (hi : i ≤ m) (hij : i < j) (hv : SwpI w v (m - i) (m + j - i) i) : ∀ x, gt t x = (if m - i ≤ x ∧ x < m - i + (j - i) then gt v (m + (x - (m - i))) else if m - i + (j - i) ≤ x ∧ x < m + (j - i) then gt v ((m - i) + (x - (m - i + (j - i)))) else gt v x) := by
  intro x
  rw [hw]
  obtain ⟨_, hv⟩ := hv
  by_cases e1 : m - i ≤ x ∧ x < m - i + j
  · rw [if_pos e1]
    by_cases e2 : x < m - i + (j - i)
    · rw [if_pos ⟨by omega, e2⟩, hv, if_neg (by omega), if_neg (by omega)]
    · rw [if_neg (by omega)]
      by_cases e3 : x < m + (j - i)
      · rw [if_pos ⟨by omega, e3⟩, hv, if_pos ⟨by omega, by omega⟩]
        congr 1; omega
      · omega
  · rw [if_neg e1]
    by_cases e2 : m - i + j ≤ x ∧ x < m + j
    · rw [if_pos e2, if_neg (by omega), if_neg (by omega), hv, if_neg (by omega), if_pos ⟨by omega, by omega⟩]
      congr 1; omega
    · rw [if_neg e2, if_neg (by omega), if_neg (by omega), hv, if_neg (by omega), if_neg (by omega)]
theorem Rot.none1 (l : List α) (m b : Nat) : Rot l l m m b := ⟨rfl, fun x => by
  by_cases e1 : m ≤ x ∧ x < m + (b - m)
  · rw [if_pos e1]; congr 1; omega
  · rw [if_neg e1, if_neg (by omega)]⟩
theorem Rot.none2 (l : List α) (a m : Nat) (h : a ≤ m) : Rot l l a m m := ⟨rfl, fun x => by
  rw [if_neg (by omega)]
  by_cases e1 : a + (m - m) ≤ x ∧ x < m
  · rw [if_pos e1]; congr 1; omega
  · rw [if_neg e1]⟩
theorem Rot.done {l w v t : List α} {a m b i : Nat} (hr : Rot l t a m b) (hl : v.length = l.length) (hw : ∀ x, gt t x = (if m - i ≤ x ∧ x < m - i + i then gt w (m + (x - (m - i))) else if m - i + i ≤ x ∧ x < m + i then gt w ((m - i) + (x - (m - i + i))) else gt w x))
    (hi : i ≤ m) (hv : SwpI w v (m - i) m i) : Rot l v a m b := ⟨hl, fun x => by
  have e : m - i + i = m := by omega
  rw [← hr.2 x, hw x, hv.2 x]
  simp only [e]⟩
/-! ### The symmetric merge -/
/-- Two sorted runs, cut and rotated so that everything ahead of mid is nowhere above what is behind it. -/
theorem sym_cut (C : PreOK c) {l w : List α} {a m b s e mid : Nat} (hs1 : Srt c l a m) (hs2 : Srt c l m b) (h1 : a ≤ s ∧ s ≤ m) (h2 : m ≤ e ∧ e ≤ b) (hn : s + e = mid + m) (hmid : s ≤ mid ∧ mid ≤ e)
    (p1 : a < s → e < b → c (gt l (s - 1)) (gt l e) ≤ 0) (p2 : s < m → m < e → c (gt l (e - 1)) (gt l s) ≤ 0) (hw : Rot l w s m e) :
    (Srt c w a s ∧ Srt c w s mid ∧ Srt c w mid e ∧ Srt c w e b) ∧ ∀ i j, a ≤ i → i < mid → mid ≤ j → j < b → c (gt w i) (gt w j) ≤ 0 := by
  obtain ⟨_, hw⟩ := hw
  have le1 : ∀ i j, a ≤ i → i ≤ j → j < m → c (gt l i) (gt l j) ≤ 0 := fun i j i1 i2 i3 => by
    by_cases h : i = j
    · subst h; exact C.refl _
    · exact hs1 i j i1 (by omega) i3
  have le2 : ∀ i j, m ≤ i → i ≤ j → j < b → c (gt l i) (gt l j) ≤ 0 := fun i j i1 i2 i3 => by
    by_cases h : i = j
    · subst h; exact C.refl _
    · exact hs2 i j i1 (by omega) i3
  have w1 : ∀ x, x < s → gt w x = gt l x := fun x h => by rw [hw, if_neg (by omega), if_neg (by omega)]
  have w2 : ∀ x, s ≤ x → x < mid → gt w x = gt l (m + (x - s)) := fun x g1 g2 => by rw [hw, if_pos ⟨g1, by omega⟩]
  have w3 : ∀ x, mid ≤ x → x < e → gt w x = gt l (s + (x - mid)) := fun x g1 g2 => by
    rw [hw, if_neg (by omega), if_pos ⟨by omega, g2⟩]; congr 1; omega
  have w4 : ∀ x, e ≤ x → gt w x = gt l x := fun x h => by rw [hw, if_neg (by omega), if_neg (by omega)]
  refine ⟨⟨fun i j i1 i2 i3 => ?_, fun i j i1 i2 i3 => ?_, fun i j i1 i2 i3 => ?_, fun i j i1 i2 i3 => ?_⟩, fun i j i1 i2 i3 i4 => ?_⟩
  · rw [w1 i (by omega), w1 j i3]; exact hs1 i j i1 i2 (by omega)
  · rw [w2 i i1 (by omega), w2 j (by omega) i3]; exact hs2 _ _ (by omega) (by omega) (by omega)
  · rw [w3 i i1 (by omega), w3 j (by omega) i3]; exact hs1 _ _ (by omega) (by omega) (by omega)
  · rw [w4 i i1, w4 j (by omega)]; exact hs2 i j (by omega) i2 i3
  · by_cases x1 : i < s
    · rw [w1 i x1]
      by_cases y1 : j < e
      · rw [w3 j i3 y1]; exact le1 _ _ i1 (by omega) (by omega)
      · rw [w4 j (by omega)]
        exact C.trans (le1 i (s - 1) i1 (by omega) (by omega)) (C.trans (p1 (by omega) (by omega)) (le2 e j (by omega) (by omega) i4))
    · rw [w2 i (by omega) i2]
      by_cases y1 : j < e
      · rw [w3 j i3 y1]
        exact C.trans (le2 (m + (i - s)) (e - 1) (by omega) (by omega) (by omega)) (C.trans (p2 (by omega) (by omega)) (le1 s _ (by omega) (by omega) (by omega)))
      · rw [w4 j (by omega)]; exact le2 _ _ (by omega) (by omega) i4
theorem sym_join {w v u : List α} {a mid b : Nat} (h1 : Rng w v a mid) (h2 : Rng v u mid b) (s1 : Srt c v a mid) (s2 : Srt c u mid b) (hm : a ≤ mid ∧ mid ≤ b)
    (cr : ∀ i j, a ≤ i → i < mid → mid ≤ j → j < b → c (gt w i) (gt w j) ≤ 0) : Srt c u a b := by
  refine Srt.join (m := mid) (s1.same fun i i1 i2 => h2.out i (.inl i2)) s2 fun i j i1 i2 i3 i4 => ?_
  rw [h2.out i (.inl i2)]
  obtain ⟨i', j1, j2, j3⟩ := h1.inn i i1 i2
  obtain ⟨j', k1, k2, k3⟩ := h2.inn j i3 i4
  rw [j3, k3, h1.out j' (.inr k1)]
  exact cr i' j' j1 j2 k1 k2
theorem sym_all (C : PreOK c) {l w v u : List α} {a m b s e mid : Nat} (hs1 : Srt c l a m) (hs2 : Srt c l m b) (h1 : a ≤ s ∧ s ≤ m) (h2 : m ≤ e ∧ e ≤ b) (hn : s + e = mid + m) (hmid : s ≤ mid ∧ mid ≤ e)
    (p1 : a < s → e < b → c (gt l (s - 1)) (gt l e) ≤ 0) (p2 : s < m → m < e → c (gt l (e - 1)) (gt l s) ≤ 0) (hw : Rot l w s m e) (hr : Rng l w s e)
    (g1 : Rng w v a mid) (g2 : Srt c w a s → Srt c w s mid → Srt c v a mid) (g3 : Rng v u mid b) (g4 : Srt c v mid e → Srt c v e b → Srt c u mid b) : Rng l u a b ∧ Srt c u a b := by
  obtain ⟨⟨q1, q2, q3, q4⟩, q5⟩ := sym_cut C hs1 hs2 h1 h2 hn hmid p1 p2 hw
  have k3 : Srt c v mid e := q3.same fun i i1 i2 => g1.out i (.inr i1)
  have k4 : Srt c v e b := q4.same fun i i1 i2 => g1.out i (.inr (by omega))
  exact ⟨((hr.up h1.1 h2.2).trans (g1.up (Nat.le_refl a) (by omega))).trans (g3.up (by omega) (Nat.le_refl b)), sym_join g1 g3 (g2 q1 q2) (g4 k3 k4) (by omega) q5⟩
/-! ### Rotations are ranges in another order -/
theorem Rot.len {l w : List α} {a m b : Nat} (h : Rot l w a m b) : w.length = l.length := h.1
theorem Rot.ex (l : List α) {a m b : Nat} (h1 : a ≤ m) (h2 : m ≤ b) (h3 : b ≤ l.length) : ∃ t, Rot l t a m b := by
  refine ⟨(List.range l.length).map fun x => if a ≤ x ∧ x < a + (b - m) then gt l (m + (x - a)) else if a + (b - m) ≤ x ∧ x < b then gt l (a + (x - (a + (b - m)))) else gt l x, by simp, fun x => ?_⟩
  by_cases hx : x < l.length
  · rw [gt_eq (by simpa using hx)]
    simp
  · rw [if_neg (by omega), if_neg (by omega)]
    have e : ∀ v : List α, v.length ≤ x → gt v x = default := fun v hv => by rw [gt, List.getD_eq_getElem?_getD, List.getElem?_eq_none hv]; rfl
    rw [e _ (by simp; omega), e l (by omega)]
theorem ext_gt' {l w : List α} (hl : w.length = l.length) (h : ∀ x, gt w x = gt l x) : w = l := by
  refine List.ext_getElem hl fun i h1 h2 => ?_
  rw [← gt_eq h1, ← gt_eq h2, h]
/-! ### Blocks -/
/-- Blocks of a size are sorted, up to n. -/
def Blk (c : α → α → Int) (l : List α) (bs n : Nat) : Prop := ∀ i j, i < j → j < n → i / bs = j / bs → c (gt l i) (gt l j) ≤ 0
theorem Blk.all {l : List α} {bs n : Nat} (h : Blk c l bs n) (hb : n ≤ bs) : Srt c l 0 n := fun i j _ h2 h3 => h i j h2 h3 (by rw [Nat.div_eq_of_lt (by omega), Nat.div_eq_of_lt (by omega)])
theorem div_in {q bs x : Nat} (h1 : bs * q ≤ x) (h2 : x < bs * q + bs) : x / bs = q := by
  have hb : 0 < bs := by omega
  apply Nat.div_eq_of_lt_le
  · rw [Nat.mul_comm]; exact h1
  · rw [Nat.add_mul, Nat.one_mul, Nat.mul_comm]; exact h2
theorem div_ne {q bs i j : Nat} (hb : 0 < bs) (h1 : i < bs * q) (h2 : bs * q ≤ j) : i / bs ≠ j / bs := by
  have e1 : i / bs < q := by rw [Nat.div_lt_iff_lt_mul hb, Nat.mul_comm]; exact h1
  have e2 : q ≤ j / bs := by rw [Nat.le_div_iff_mul_le hb, Nat.mul_comm]; exact h2
  omega
theorem Blk.run {l : List α} {bs n a b q : Nat} (h : Blk c l bs n) (ha : a = bs * q) (hb : b ≤ a + bs) (hn : b ≤ n) : Srt c l a b := fun i j h1 h2 h3 => by
  subst ha
  exact h i j h2 (by omega) (by rw [div_in (q := q) h1 (by omega), div_in (q := q) (bs := bs) (by omega) (by omega)])
/-- Blocks of a size up to a, which is the beginning of one. -/
theorem Blk.step {l w : List α} {bs a b q : Nat} (h : Blk c l bs a) (ha : a = bs * q) (hb : 0 < bs) (hr : Rng l w a b) (hs : Srt c w a b) : Blk c w bs b := fun i j h2 h3 h4 => by
  subst ha
  by_cases h5 : j < bs * q
  · rw [hr.out i (.inl (by omega)), hr.out j (.inl h5)]; exact h i j h2 h5 h4
  · by_cases h6 : i < bs * q
    · exact absurd h4 (div_ne hb h6 (by omega))
    · exact hs i j (by omega) h2 h3
theorem Blk.zero (l : List α) (bs : Nat) : Blk c l bs 0 := fun i j _ h => by omega
/-- What is behind a has blocks of a size. -/
def BlkF (c : α → α → Int) (l : List α) (bs a n : Nat) : Prop := ∀ i j, a ≤ i → i < j → j < n → i / bs = j / bs → c (gt l i) (gt l j) ≤ 0
theorem Blk.from0 {l : List α} {bs n : Nat} (h : Blk c l bs n) : BlkF c l bs 0 n := fun i j _ h2 h3 h4 => h i j h2 h3 h4
theorem BlkF.run {l : List α} {bs n a a' b q : Nat} (h : BlkF c l bs a n) (ha : a' = bs * q) (haa : a ≤ a') (hb : b ≤ a' + bs) (hn : b ≤ n) : Srt c l a' b := fun i j h1 h2 h3 => by
  subst ha
  exact h i j (by omega) h2 (by omega) (by rw [div_in (q := q) h1 (by omega), div_in (q := q) (bs := bs) (by omega) (by omega)])
theorem BlkF.step {l w : List α} {bs n a b : Nat} (h : BlkF c l bs a n) (hr : Rng l w a b) (hab : a ≤ b) : BlkF c w bs b n := fun i j h1 h2 h3 h4 => by
  rw [hr.out i (.inr h1), hr.out j (.inr (by omega))]
  exact h i j (by omega) h2 h3 h4
end
end Go.Fw
