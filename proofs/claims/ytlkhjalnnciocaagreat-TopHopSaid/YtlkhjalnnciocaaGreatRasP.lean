/- The makers' tape: New, Next, Mod. -/
import Derived.Test.YtlkhjalnnciocaaGreatTT

namespace Go.Fw
set_option maxRecDepth 4000
open Go.Proofs
set_option maxHeartbeats 4000000
def int (x : Int) : SV := .v (.int .i64 x)
abbrev ints (l : List Int) : List SV := lst int l
def bool (b : Bool) : SV := .v (.bool b)
theorem bool_mk (b : Bool) : SV.v (.bool b) = bool b := rfl
def tape (l : List Int) (at_ : Int) : SV := .agg [.fs .no 1 (ints l), .v (.int .i64 at_)]
theorem wrap64_id {x : Int} (h : -9223372036854775808 ≤ x ∧ x ≤ 9223372036854775807) : IntKind.wrap .i64 x = x := by
  simp [IntKind.wrap, IntKind.bits, IntKind.signed]; omega
theorem tmod_low {x n : Int} (hn : 0 < n) (h : x.tmod n < 0) : -n < x.tmod n := by
  have := Int.lt_tmod_of_pos x hn; omega
/-- What a number stands for below n. -/
def modV (v n : Int) : Int := if v.tmod n < 0 then v.tmod n + n else v.tmod n
theorem modV_range {v n : Int} (hn : 0 < n) : 0 ≤ modV v n ∧ modV v n < n := by
  unfold modV
  have := Int.tmod_lt_of_pos v hn
  split
  · have := tmod_low hn (by assumption); omega
  · omega
theorem k_made_New (l : List Int) : Con Tryz.prog 10 [.fs .no 1 (ints l)] [] (.pb 0 []) [.cells (tape (l.take 400) 0)] := by
  refine spec_of_run ttok mixed (T0 := 37) (ts := [.tmp 2]) 11 rfl rfl rfl rfl (by simp) rfl ?_
  conv => whnf
  by_cases hl : l.length > 400
  · repeat' (first | with_reducible apply True.intro | ((apply Same.rfl); conv => whnf) | ((first | ((with_reducible apply Nm.mk); focus ((try simp only [lns]); exact rfl)) | ((with_reducible apply Need.mk); focus (simp only [lns]; omega)) | ((with_reducible apply Bif.dec) <;> intro h <;> (try simp only [lns] at h) <;> (try (exfalso; omega))) | (with_reducible apply Frz.l)) <;> conv => whnf) | fail)
  · have e : l.take 400 = l := List.take_of_length_le (by omega)
    rw [e]
    repeat' (first | with_reducible apply True.intro | ((apply Same.rfl); conv => whnf) | ((first | ((with_reducible apply Nm.mk); focus ((try simp only [lns]); exact rfl)) | ((with_reducible apply Bif.dec) <;> intro h <;> (try simp only [lns] at h) <;> (try (exfalso; omega))) | (with_reducible apply Frz.l)) <;> conv => whnf) | fail)
def tapeV (l : List Int) (k n : Int) : Int := if k ≥ l.length then 0 else modV (l.getD k.toNat 0) n
def tapeK (l : List Int) (k : Int) : Int := if k ≥ l.length then k else k + 1
theorem k_tape_Next' (l : List Int) (k n : Int) (hk : 0 ≤ k) (hl : l.length ≤ 400) (hn : 0 < n ∧ n < 9223372036854775808) : Con Tryz.prog 21 [.pb 0 [], .v (.int .i64 n)] [.cells (tape l k)] (.v (.int .i64 (tapeV l k n))) [.cells (tape l (tapeK l k))] := by
  refine spec_of_run ttok mixed (T0 := 68719509555) (ts := [.tmp 4]) 41 rfl rfl rfl rfl (by simp) rfl ?_
  conv => whnf
  by_cases hg : k ≥ l.length
  · have e1 : tapeV l k n = 0 := by simp [tapeV, hg]
    have e2 : tapeK l k = k := by simp [tapeK, hg]
    rw [e1, e2]
    repeat' (first | with_reducible apply True.intro | ((apply Same.rfl); conv => whnf) | ((first | ((with_reducible apply Nm.mk); focus ((try simp only [lns]); exact rfl)) | ((with_reducible apply Need.mk); focus kernel_rfl) | ((with_reducible apply Bif.dec) <;> intro h <;> (try simp only [lns] at h) <;> (try (exfalso; omega))) | (with_reducible apply Frz.l)) <;> conv => whnf) | fail)
  · have e0 : gt l k.toNat = l.getD k.toNat 0 := rfl
    have e2 : tapeK l k = k + 1 := by rw [tapeK, if_neg hg]
    rw [e2]
    by_cases h3 : (gt l k.toNat).tmod n < 0
    · have h4 := tmod_low hn.1 h3
      have e1 : tapeV l k n = (gt l k.toNat).tmod n + n := by rw [tapeV, if_neg hg, modV, ← e0, if_pos h3]
      rw [e1]
      repeat' (first | with_reducible apply True.intro | ((apply Same.rfl); conv => whnf) | ((first | ((with_reducible apply Nm.mk); focus ((try simp only [lns]); exact rfl)) | ((with_reducible apply Wr.i64); focus omega) | ((with_reducible apply Need.mk); focus first | omega | (simp only [lns]; omega) | kernel_rfl) | ((with_reducible apply Elem.lst); focus omega) | ((with_reducible apply Bif.dec) <;> intro h <;> (try simp only [lns] at h) <;> (try (exfalso; omega))) | (with_reducible apply Frz.l)) <;> conv => whnf) | fail)
    · have e1 : tapeV l k n = (gt l k.toNat).tmod n := by rw [tapeV, if_neg hg, modV, ← e0, if_neg h3]
      rw [e1]
      repeat' (first | with_reducible apply True.intro | ((apply Same.rfl); conv => whnf) | ((first | ((with_reducible apply Nm.mk); focus ((try simp only [lns]); exact rfl)) | ((with_reducible apply Wr.i64); focus omega) | ((with_reducible apply Need.mk); focus first | omega | (simp only [lns]; omega) | kernel_rfl) | ((with_reducible apply Elem.lst); focus omega) | ((with_reducible apply Bif.dec) <;> intro h <;> (try simp only [lns] at h) <;> (try (exfalso; omega))) | (with_reducible apply Frz.l)) <;> conv => whnf) | fail)
/-- A number of the tape, from lo to hi - 1; the tape has gone on. -/
def TapeInt (l : List Int) (lo hi : Int) (r : SV) (hp' : List OB) : Prop := ∃ x k' : Int, r = .v (.int .i64 x) ∧ hp' = [.cells (tape l k')] ∧ lo ≤ x ∧ x < hi ∧ 0 ≤ k'
theorem k_tape_Next (l : List Int) (k n : Int) (hk : 0 ≤ k) (hl : l.length ≤ 400) (hn : 0 < n ∧ n < 9223372036854775808) :
    ∃ r hp', TapeInt l 0 n r hp' ∧ Con Tryz.prog 21 [.pb 0 [], .v (.int .i64 n)] [.cells (tape l k)] r hp' := by
  refine ⟨_, _, ⟨_, _, rfl, rfl, ?_⟩, k_tape_Next' l k n hk hl hn⟩
  have := modV_range (v := l.getD k.toNat 0) hn.1
  unfold tapeV tapeK
  split <;> omega
theorem k_made_Mod (v n : Int) (hn : 0 < n ∧ n < 9223372036854775808) : Con Tryz.prog 12 [int v, int n] [] (int (modV v n)) [] := by
  refine spec_of_run ttok mixed (T0 := 531) (ts := [.tmp 4]) 14 rfl rfl rfl rfl (by simp) rfl ?_
  conv => whnf
  by_cases h3 : v.tmod n < 0
  · have h4 := tmod_low hn.1 h3
    have e1 : modV v n = v.tmod n + n := by rw [modV, if_pos h3]
    rw [e1]
    repeat' (first | with_reducible apply True.intro | ((first | ((with_reducible apply Wr.i64); focus omega) | ((with_reducible apply Need.mk); focus omega) | ((with_reducible apply Bif.dec) <;> intro h <;> (try simp only [lns] at h) <;> (try (exfalso; omega))) | (apply Same.int; focus rfl) | (with_reducible apply Frz.l)) <;> conv => whnf) | fail)
  · have e1 : modV v n = v.tmod n := by rw [modV, if_neg h3]
    rw [e1]
    repeat' (first | with_reducible apply True.intro | ((first | ((with_reducible apply Need.mk); focus omega) | ((with_reducible apply Bif.dec) <;> intro h <;> (try simp only [lns] at h) <;> (try (exfalso; omega))) | (apply Same.int; focus rfl) | (with_reducible apply Frz.l)) <;> conv => whnf) | fail)
end Go.Fw

/- Plain laws of lists: where the first such element is, what is left behind a search. -/
namespace Go.Fw
set_option maxRecDepth 4000
section
variable {α : Type} [Inhabited α]
def idxF (p : α → Bool) (l : List α) : Int := match l.findIdx? p with | some i => (i : Int) | none => -1
theorem idxF_some {p : α → Bool} {l : List α} {k : Nat} (hk : k < l.length) (hp : p (gt l k) = true) (h : ∀ j, j < k → p (gt l j) = false) : idxF p l = (k : Int) := by
  have : l.findIdx? p = some k := by
    rw [List.findIdx?_eq_some_iff_getElem]
    refine ⟨hk, by rw [← gt_eq hk]; exact hp, fun j hj => ?_⟩
    rw [← gt_eq (by omega)]
    simp [h j hj]
  rw [idxF, this]
theorem idxF_none {p : α → Bool} {l : List α} (h : ∀ j, j < l.length → p (gt l j) = false) : idxF p l = -1 := by
  have : l.findIdx? p = none := by
    rw [List.findIdx?_eq_none_iff]
    intro x hx
    obtain ⟨i, hi, rfl⟩ := List.getElem_of_mem hx
    rw [← gt_eq hi]
    simp [h i hi]
  rw [idxF, this]
theorem idxF_cases (p : α → Bool) (l : List α) : (idxF p l = -1 ∧ ∀ j, j < l.length → p (gt l j) = false) ∨ ∃ k, k < l.length ∧ idxF p l = (k : Int) ∧ p (gt l k) = true ∧ ∀ j, j < k → p (gt l j) = false := by
  cases h : l.findIdx? p with
  | none =>
    left
    refine ⟨by rw [idxF, h], fun j hj => ?_⟩
    rw [List.findIdx?_eq_none_iff] at h
    simpa using h _ (gt_mem hj)
  | some k =>
    right
    rw [List.findIdx?_eq_some_iff_getElem] at h
    obtain ⟨h1, h2, h3⟩ := h
    exact ⟨k, h1, idxF_some h1 (by rw [gt_eq h1]; exact h2) (fun j hj => by rw [gt_eq (by omega)]; simpa using h3 j hj), by rw [gt_eq h1]; exact h2, fun j hj => by rw [gt_eq (by omega)]; simpa using h3 j hj⟩
theorem filter_all {p : α → Bool} {l : List α} (h : ∀ j, j < l.length → p (gt l j) = true) : l.filter p = l := by
  rw [List.filter_eq_self]
  intro x hx
  obtain ⟨i, hi, rfl⟩ := List.getElem_of_mem hx
  rw [← gt_eq hi]; exact h i hi
theorem filter_snoc {p : α → Bool} {l : List α} {j : Nat} (hj : j < l.length) : (l.take (j + 1)).filter p = (l.take j).filter p ++ if p (gt l j) = true then [gt l j] else [] := by
  rw [take_gt hj, List.filter_append]
  congr 1
  simp only [List.filter_cons, List.filter_nil]
/-- the state of DeleteFunc -/
structure Del (p : α → Bool) (l : List α) (i j : Nat) (w : List α) : Prop where
  len : w.length = l.length
  ij : i ≤ j
  jl : j ≤ l.length
  low : w.take i = (l.take j).filter (fun a => !p a)
  high : w.drop j = l.drop j
theorem Del.get {p : α → Bool} {l w : List α} {i j : Nat} (d : Del p l i j w) (hj : j < l.length) : gt w j = gt l j := by
  have : gt (w.drop j) 0 = gt (l.drop j) 0 := by rw [d.high]
  rwa [gt_drop, gt_drop] at this
omit [Inhabited α] in
theorem drop_next {l m : List α} {j : Nat} (h : l.drop j = m.drop j) : l.drop (j + 1) = m.drop (j + 1) := by
  rw [show j + 1 = j + 1 from rfl, ← List.drop_drop, ← List.drop_drop, h]
theorem Del.drop {p : α → Bool} {l w : List α} {i j : Nat} (d : Del p l i j w) (hj : j < l.length) (hp : p (gt l j) = true) : Del p l i (j + 1) w :=
  ⟨d.len, by have := d.ij; omega, hj, by rw [filter_snoc hj]; simp [hp, d.low], drop_next d.high⟩
theorem Del.keep {p : α → Bool} {l w : List α} {i j : Nat} (d : Del p l i j w) (hj : j < l.length) (hp : p (gt l j) = false) : Del p l (i + 1) (j + 1) (w.set i (gt l j)) := by
  have h1 := d.ij
  have h2 := d.len
  refine ⟨by simp [h2], by omega, hj, ?_, ?_⟩
  · rw [take_gt (by simp; omega), filter_snoc hj, gt_set (by omega), if_pos rfl]
    simp only [hp, Bool.not_false, if_true]
    congr 1
    rw [← d.low, List.take_set_of_le (Nat.le_refl i)]
  · rw [List.drop_set_of_lt (by omega)]; exact drop_next d.high
omit [Inhabited α] in
theorem Del.done {p : α → Bool} {l w : List α} {i : Nat} (d : Del p l i l.length w) : w.take i = l.filter (fun a => !p a) ∧ i = (l.filter (fun a => !p a)).length := by
  have h := d.low
  rw [List.take_length] at h
  refine ⟨h, ?_⟩
  rw [← h, List.length_take]
  have := d.ij; have := d.len; omega
/-- where a search ends -/
def bsA (c : α → Int) (l : List α) : Nat := (l.takeWhile fun a => decide (c a < 0)).length
end
theorem Wr.half {x : Int} {n : Nat} {K : Int → Prop} (k : K ((x.toNat / 2 : Nat) : Int)) (h : 0 ≤ x ∧ x ≤ 9223372036854775807) (hn : n = 1 := by rfl) : Wr .i64 (x.fdiv (2 ^ n)) K := by
  subst hn
  have e : x.fdiv (2 ^ 1) = ((x.toNat / 2 : Nat) : Int) := by
    rw [Int.fdiv_eq_ediv_of_nonneg _ (by omega)]
    omega
  rw [e]
  exact Wr.i64 (by omega) k
theorem Ex2.mk {R O : SV → List OB → Prop} (r : SV) (hp : List OB) (o : O r hp) (h : R r hp) : ∃ r hp', R r hp' ∧ O r hp' := ⟨r, hp, h, o⟩
/-! What slices.Insert makes -/
section
variable {α : Type} {rows js : List α} {a z : α} {i A B : Nat}
theorem ins4 (hi : i < rows.length) (hA : 1 ≤ A) (hB : B = rows.length + 1 - i) :
    List.take i (rows.take i ++ List.replicate B z) ++ List.take A [a] ++ List.drop (i + (List.take A [a]).length) (rows.take i ++ List.replicate B z) = rows.take i ++ [a] ++ List.replicate (rows.length - i) z := by
  rw [List.take_of_length_le (l := [a]) (by simpa using hA)]; subst hB; (apply List.ext_getElem?; intro kk; simp only [List.getElem?_append, List.getElem?_take, List.getElem?_drop, List.getElem?_replicate, List.length_append, List.length_take, List.length_drop, List.length_replicate, List.length_cons, List.length_nil, List.getElem?_cons, List.getElem?_nil]; repeat' (split <;> try (exfalso; omega))) <;> first | rfl | (congr 1; omega) | (symm; apply List.getElem?_eq_none; omega) | (apply List.getElem?_eq_none; omega) | (congr 2; omega) | (simp; omega)
theorem ins5 (hi : i < rows.length) (hA : A = rows.length - i) (hB : B = rows.length - i) :
    List.take (i + 1) (rows.take i ++ [a] ++ List.replicate (rows.length - i) z) ++ List.take A (List.take B (List.drop i rows)) ++ List.drop (i + 1 + (List.take A (List.take B (List.drop i rows))).length) (rows.take i ++ [a] ++ List.replicate (rows.length - i) z) = List.take i rows ++ [a] ++ List.drop i rows := by
  subst hA hB; (apply List.ext_getElem?; intro kk; simp only [List.getElem?_append, List.getElem?_take, List.getElem?_drop, List.getElem?_replicate, List.length_append, List.length_take, List.length_drop, List.length_replicate, List.length_cons, List.length_nil, List.getElem?_cons, List.getElem?_nil]; repeat' (split <;> try (exfalso; omega))) <;> first | rfl | (congr 1; omega) | (symm; apply List.getElem?_eq_none; omega) | (apply List.getElem?_eq_none; omega) | (congr 2; omega) | (simp; omega)
end
end Go.Fw

/- Plain law: lists that are sorted by a key, searched, set and inserted into. -/
namespace Go.Fw
set_option maxRecDepth 4000
theorem bsA_lo {α : Type} [Inhabited α] {c : α → Int} : ∀ {l : List α} {k : Nat}, k < bsA c l → c (gt l k) < 0
  | [], k, h => by simp [bsA] at h
  | x :: l, k, h => by
    by_cases hx : c x < 0
    · cases k with
      | zero => exact hx
      | succ k =>
        have : k < bsA c l := by simpa [bsA, List.takeWhile_cons, hx] using h
        exact bsA_lo (l := l) this
    · simp [bsA, List.takeWhile_cons, hx] at h
theorem bsA_hi {α : Type} [Inhabited α] {c : α → Int} : ∀ {l : List α}, bsA c l < l.length → ¬ c (gt l (bsA c l)) < 0
  | [], h => by simp at h
  | x :: l, h => by
    by_cases hx : c x < 0
    · have e : bsA c (x :: l) = bsA c l + 1 := by simp [bsA, List.takeWhile_cons, hx]
      rw [e] at h ⊢
      exact bsA_hi (l := l) (by simpa using h)
    · have e : bsA c (x :: l) = 0 := by simp [bsA, List.takeWhile_cons, hx]
      rw [e]
      exact hx
theorem bsA_le {α : Type} [Inhabited α] (c : α → Int) (l : List α) : bsA c l ≤ l.length := (List.takeWhile_sublist _).length_le
section
variable {α β : Type} [Inhabited α] {cm : β → β → Int} {κ : α → β}
variable {n : Nat} {ok : α → Bool}
end
end Go.Fw

/- Lists into which an element is put: plain laws. -/
namespace Go.Fw
set_option maxRecDepth 4000
open Go.Proofs
section
variable {α : Type} {l : List α} {a k : Nat} {f : Bool} {x : α}
end
end Go.Fw

/- Addresses and claims, as plain data. -/
namespace Go.Fw
set_option maxRecDepth 4000
open Go.Proofs
def u8 (x : Int) : SV := .v (.int .u8 x)
def u64 (x : Int) : SV := .v (.int .u64 x)
/-- An address: sixteen bytes. -/
def IP : Type := {l : List Int // l.length = 16 ∧ ∀ x ∈ l, 0 ≤ x ∧ x ≤ 255}
instance : DecidableEq IP := inferInstanceAs (DecidableEq {l : List Int // l.length = 16 ∧ ∀ x ∈ l, 0 ≤ x ∧ x ≤ 255})
instance : Inhabited IP := ⟨⟨List.replicate 16 0, by decide⟩⟩
def ipV (a : IP) : SV := .ba 16 a.1
theorem ip_ext {a b : IP} (h : a.1 = b.1) : a = b := Subtype.ext h
def ip0 : IP := ⟨List.replicate 16 0, by decide⟩
end Go.Fw

/- Link addresses, registrations and owners, as plain data. -/
namespace Go.Fw
set_option maxRecDepth 4000
open Go.Proofs
structure Adr where
  mode : Int
  short : Int
  eui : Int
  deriving DecidableEq, Inhabited
def adrV (a : Adr) : SV := .agg [.v (.int .i64 a.mode), .v (.int .u16 a.short), .v (.int .u64 a.eui)]
theorem adr_ext {a b : Adr} (h1 : a.mode = b.mode) (h2 : a.short = b.short) (h3 : a.eui = b.eui) : a = b := by cases a; cases b; simp_all
theorem adr_eq (a b : Adr) : (a.mode == b.mode && (a.short == b.short && (a.eui == b.eui && true))) = decide (a = b) := by
  rw [Bool.eq_iff_iff]
  simp only [Bool.and_eq_true, beq_iff_eq, decide_eq_true_eq, and_true]
  exact ⟨fun ⟨h1, h2, h3⟩ => adr_ext h1 h2 h3, fun h => by subst h; simp⟩
def adr0 : Adr := ⟨0, 0, 0⟩
end Go.Fw

/- Fragments and buffers, as plain data. -/
namespace Go.Fw
set_option maxRecDepth 4000
open Go.Proofs
set_option maxHeartbeats 4000000
/-- A byte. -/
def b8 (x : UInt8) : SV := .v (.int .u8 (x.toNat : Int))
structure Frg where
  size : Int
  tag : Int
  off : Int
  data : List UInt8
  deriving DecidableEq, Inhabited
def frgV (f : Frg) : SV := .agg [int f.size, .v (.int .u16 f.tag), int f.off, .fs .no 1 (lst b8 f.data)]
structure Buf where
  src : Adr
  dst : Adr
  tag : Int
  size : Int
  parts : List Frg
  upto : Int
  deriving DecidableEq, Inhabited
def bufV (b : Buf) : SV := .agg [adrV b.src, adrV b.dst, .v (.int .u16 b.tag), int b.size, .fs .no 4 (lst frgV b.parts), int b.upto]
/-! ### What is computed -/
abbrev isTm (t : Int) : Prop := 0 ≤ t ∧ t ≤ 1099511627776
def vAdr (a : Adr) : Bool := decide ((a.mode = 0 ∧ a.short = 0 ∧ a.eui = 0) ∨ (a.mode = 2 ∧ a.eui = 0) ∨ (a.mode = 3 ∧ a.short = 0))
def someA (a : Adr) : Bool := vAdr a && !decide (a.mode = 0)
def fEnd (f : Frg) : Int := f.off + f.data.length
def okF (f : Frg) : Bool := decide (1 ≤ f.size ∧ f.size ≤ 2047 ∧ 0 ≤ f.off ∧ f.off.tmod 8 = 0 ∧ 1 ≤ f.data.length ∧ fEnd f ≤ f.size ∧ (fEnd f = f.size ∨ (f.data.length : Int).tmod 8 = 0))
theorem okF_iff {f : Frg} : okF f = true ↔ 1 ≤ f.size ∧ f.size ≤ 2047 ∧ 0 ≤ f.off ∧ f.off.tmod 8 = 0 ∧ 1 ≤ f.data.length ∧ f.off + f.data.length ≤ f.size ∧ (f.off + f.data.length = f.size ∨ (f.data.length : Int).tmod 8 = 0) := by
  rw [okF, decide_eq_true_eq]; exact Iff.rfl
/-- What parts cover; none: they are not parts of one datagram. c is covered so far, up to b. -/
def chkP (s t : Int) : Int → Int → List Frg → Option Int
  | c, _, [] => some c
  | c, b, f :: r => if okF f = true ∧ f.size = s ∧ f.tag = t ∧ b ≤ f.off then chkP s t (c + f.data.length) (fEnd f) r else none
def partsOK (s t : Int) (l : List Frg) : Bool := match chkP s t 0 0 l with | some c => decide (c < s) | none => false
def validB (b : Buf) : Bool := someA b.src && (someA b.dst && (decide (isTm b.upto) && (decide (b.parts ≠ []) && partsOK b.size b.tag b.parts)))
def keyB (a b : Buf) : Bool := decide (a.src = b.src ∧ a.dst = b.dst ∧ a.tag = b.tag ∧ a.size = b.size)
def validL (l : List Buf) : Bool := decide (l.length ≤ 4 ∧ (∀ b ∈ l, validB b = true) ∧ l.Pairwise fun a b => keyB a b = false)
/-! ### Joining -/
def putL {α : Type} (l : List α) (o : Nat) (d : List α) : List α := l.take o ++ d ++ l.drop (o + d.length)
def clashB (h : List Bool) (o n : Nat) : Bool := ((h.drop o).take n).any id
structure JS where
  out : List UInt8
  hv : List Bool
  cnt : Int
def jstep (s t : Int) (x : JS) (f : Frg) : Option JS :=
  if okF f = true ∧ f.size = s ∧ f.tag = t then
    (if clashB x.hv f.off.toNat f.data.length = true then none else some ⟨putL x.out f.off.toNat f.data, putL x.hv f.off.toNat (List.replicate f.data.length true), x.cnt + f.data.length⟩)
  else none
def jfold (s t : Int) : JS → List Frg → Option JS
  | x, [] => some x
  | x, f :: r => match jstep s t x f with | some y => jfold s t y r | none => none
def js0 (s : Int) : JS := ⟨List.replicate s.toNat 0, List.replicate s.toNat false, 0⟩
def joinF (l : List Frg) : Option (List UInt8) :=
  match l with
  | [] => none
  | f :: _ => if okF f = true then (match jfold f.size f.tag (js0 f.size) l with | some x => if x.cnt = f.size then some x.out else none | none => none) else none
/-! ### Adding -/
def ovl (p f : Frg) : Bool := decide (p.off < fEnd f ∧ f.off < fEnd p)
def eqP (p f : Frg) : Bool := decide (p.off = f.off ∧ p.data = f.data)
/-- where it goes -/
def posF (f : Frg) (l : List Frg) : Nat := bsA (fun p => if p.off < f.off then -1 else 1) l
def insF (f : Frg) (l : List Frg) : List Frg := l.take (posF f l) ++ [f] ++ l.drop (posF f l)
/-- The parts with one more; none: it contradicts them. -/
def addP (l : List Frg) (f : Frg) : Option (List Frg) := if l.any (eqP · f) = true then some l else if l.any (ovl · f) = true then none else some (insF f l)
def expB (l : List Buf) (now : Int) : List Buf := l.filter fun b => decide (b.upto > now)
/-- reassembly.Expire -/
def expM (l : List Buf) (now : Int) : List Buf × Int := if validL l = true then (if isTm now then (expB l now, 0) else ([], 2)) else ([], 1)
def freshB (src dst : Adr) (f : Frg) (now : Int) : Buf := ⟨src, dst, f.tag, f.size, [f], min (now + 12) 1099511627776⟩
def withB (b : Buf) (f : Frg) (fr : Buf) : Buf := match addP b.parts f with | some ps => ⟨b.src, b.dst, b.tag, b.size, ps, b.upto⟩ | none => fr
def finB (l : List Buf) (i : Nat) : List Buf × List UInt8 × Int := match joinF (gt l i).parts with | none => (l, [], 0) | some d => (l.eraseIdx i, d, 0)
/-- reassembly.Add -/
def addM (l : List Buf) (src dst : Adr) (f : Frg) (now : Int) : List Buf × List UInt8 × Int :=
  if validL l = true ∧ someA src = true ∧ someA dst = true ∧ okF f = true then
    (if isTm now then
      (let K := expB l now
       let fr := freshB src dst f now
       if K.any (keyB · fr) = true then finB (K.set (idxF (keyB · fr) K).toNat (withB (gt K (idxF (keyB · fr) K).toNat) f fr)) (idxF (keyB · fr) K).toNat
       else if 4 ≤ K.length then ([], [], 10) else finB (K ++ [fr]) K.length)
    else ([], [], 2))
  else ([], [], 1)
end Go.Fw

/- Reassembly: the plain law of parts, of joining and of adding. -/
namespace Go.Fw
set_option maxRecDepth 4000
open Go.Proofs
set_option maxHeartbeats 4000000
/-! ### Parts -/
structure Parts (s t b : Int) (l : List Frg) : Prop where
  all : ∀ f ∈ l, okF f = true ∧ f.size = s ∧ f.tag = t ∧ b ≤ f.off
  pw : l.Pairwise fun a c => fEnd a ≤ c.off
def covP : List Frg → Int
  | [] => 0
  | f :: r => f.data.length + covP r
theorem chkP_parts {s t : Int} : ∀ {l : List Frg} {c b c' : Int}, chkP s t c b l = some c' → Parts s t b l ∧ c' = c + covP l
  | [], c, b, c', h => by
    simp only [chkP, Option.some.injEq] at h
    exact ⟨⟨by simp, .nil⟩, by simp [covP, h]⟩
  | f :: r, c, b, c', h => by
    unfold chkP at h
    split at h
    · rename_i g
      obtain ⟨g1, g2, g3, g4⟩ := g
      obtain ⟨⟨h1, h2⟩, h3⟩ := chkP_parts h
      have ho := okF_iff.1 g1
      refine ⟨⟨fun x hx => ?_, List.pairwise_cons.2 ⟨fun x hx => (h1 x hx).2.2.2, h2⟩⟩, by rw [h3, covP]; omega⟩
      rcases List.mem_cons.1 hx with rfl | hx
      · exact ⟨g1, g2, g3, g4⟩
      · obtain ⟨e1, e2, e3, e4⟩ := h1 x hx
        exact ⟨e1, e2, e3, by unfold fEnd at e4; omega⟩
    · cases h
theorem chkP_of {s t : Int} : ∀ {l : List Frg} {c b : Int}, Parts s t b l → chkP s t c b l = some (c + covP l)
  | [], c, b, _ => by simp [chkP, covP]
  | f :: r, c, b, h => by
    have h1 := h.all f (by simp)
    obtain ⟨p1, p2⟩ := List.pairwise_cons.1 h.pw
    have hr : Parts s t (fEnd f) r := ⟨fun x hx => by
      obtain ⟨e1, e2, e3, e4⟩ := h.all x (by simp [hx])
      exact ⟨e1, e2, e3, p1 x hx⟩, p2⟩
    rw [chkP, if_pos h1, chkP_of hr, covP]
    congr 1; omega
theorem partsOK_iff {s t : Int} {l : List Frg} : partsOK s t l = true ↔ Parts s t 0 l ∧ covP l < s := by
  unfold partsOK
  constructor
  · intro h
    split at h
    · rename_i c hc
      obtain ⟨h1, h2⟩ := chkP_parts hc
      rw [decide_eq_true_eq] at h
      exact ⟨h1, by omega⟩
    · cases h
  · rintro ⟨h1, h2⟩
    rw [chkP_of h1]
    simpa using h2
theorem Parts.cov {s t : Int} : ∀ {l : List Frg} {b : Int}, Parts s t b l → b ≤ s → covP l ≤ s - b ∧ (l.length : Int) ≤ covP l
  | [], b, _, h => by simp [covP]; omega
  | f :: r, b, h, hb => by
    have h1 := h.all f (by simp)
    have ho := okF_iff.1 h1.1
    obtain ⟨p1, p2⟩ := List.pairwise_cons.1 h.pw
    have hr : Parts s t (fEnd f) r := ⟨fun x hx => by
      obtain ⟨e1, e2, e3, e4⟩ := h.all x (by simp [hx])
      exact ⟨e1, e2, e3, p1 x hx⟩, p2⟩
    have ih := hr.cov (by unfold fEnd; omega)
    unfold fEnd at ih
    rw [covP, List.length_cons]
    omega
theorem Parts.len {s t : Int} {l : List Frg} (h : Parts s t 0 l) : l.length ≤ 2047 := by
  rcases l with _ | ⟨f, r⟩
  · simp
  · have h1 := h.all f (by simp)
    have ho := okF_iff.1 h1.1
    have := h.cov (by omega)
    omega
/-! ### Joining -/
theorem putL_len {α : Type} {l d : List α} {o : Nat} (h : o + d.length ≤ l.length) : (putL l o d).length = l.length := by
  simp only [putL, List.length_append, List.length_take, List.length_drop]; omega
theorem putL_hi {α : Type} {l d : List α} {o j : Nat} (h : o + d.length ≤ l.length) (hj : o + d.length ≤ j) : (putL l o d)[j]? = l[j]? := by
  have e1 : (l.take o).length = o := by rw [List.length_take]; omega
  rw [putL, List.getElem?_append_right (by rw [List.length_append]; omega), List.getElem?_drop]
  congr 1
  rw [List.length_append]; omega
theorem putL_zero {α : Type} (l : List α) (o : Nat) : putL l o [] = l := by simp [putL]
theorem putL_step {α : Type} {l d : List α} {o : Nat} {x : α} (h : o + d.length < l.length) : (putL l o d).set (o + d.length) x = putL l o (d ++ [x]) := by
  have e1 : (l.take o ++ d).length = o + d.length := by rw [List.length_append, List.length_take]; omega
  unfold putL
  rw [List.set_append_right _ _ (by omega), e1, Nat.sub_self, List.drop_eq_getElem_cons h]
  simp only [List.set_cons_zero, List.length_append, List.length_cons, List.length_nil, List.append_assoc, List.cons_append, List.nil_append]
  rfl
theorem putL_at {α : Type} {l d : List α} {o j : Nat} (h : o + d.length ≤ j) (hl : o + d.length ≤ l.length) : (putL l o d).getD j = l.getD j := by
  funext z
  simp only [List.getD_eq_getElem?_getD, putL_hi hl h]
theorem clashB_false {h : List Bool} {o n : Nat} (g : ∀ j, o ≤ j → j < o + n → h[j]? ≠ some true) : clashB h o n = false := by
  rw [clashB, List.any_eq_false]
  intro x hx
  obtain ⟨i, hi, rfl⟩ := List.mem_iff_getElem.1 hx
  have hi2 := hi
  simp only [List.length_take, List.length_drop] at hi2
  rw [List.getElem_take, List.getElem_drop]
  have := g (o + i) (by omega) (by omega)
  rw [List.getElem?_eq_getElem (by omega)] at this
  simpa using this
theorem clashB_true {h : List Bool} {o n j : Nat} (h1 : o ≤ j) (h2 : j < o + n) (g : h[j]? = some true) : clashB h o n = true := by
  have hj := (List.getElem?_eq_some_iff.1 g)
  obtain ⟨hl, e⟩ := hj
  rw [clashB, List.any_eq_true]
  refine ⟨true, ?_, rfl⟩
  rw [List.mem_iff_getElem]
  refine ⟨j - o, by simp only [List.length_take, List.length_drop]; omega, ?_⟩
  rw [List.getElem_take, List.getElem_drop]
  simpa [show o + (j - o) = j by omega] using e
/-- What is known while parts are joined. -/
structure JInv (s : Int) (x : JS) (c b : Int) : Prop where
  ol : x.out.length = s.toNat
  hl : x.hv.length = s.toNat
  fr : ∀ j : Nat, b ≤ (j : Int) → x.hv[j]? ≠ some true
  ct : x.cnt = c
theorem js0_inv (s : Int) : JInv s (js0 s) 0 0 := ⟨by simp [js0], by simp [js0], fun j _ h => by
  simp only [js0, List.getElem?_replicate] at h
  split at h <;> simp at h, rfl⟩
theorem jstep_ok {s t : Int} {x : JS} {f : Frg} {c b : Int} (h : JInv s x c b) (hf : okF f = true ∧ f.size = s ∧ f.tag = t ∧ b ≤ f.off) :
    jstep s t x f = some ⟨putL x.out f.off.toNat f.data, putL x.hv f.off.toNat (List.replicate f.data.length true), x.cnt + f.data.length⟩ ∧ JInv s ⟨putL x.out f.off.toNat f.data, putL x.hv f.off.toNat (List.replicate f.data.length true), x.cnt + f.data.length⟩ (c + f.data.length) (fEnd f) := by
  have ho := okF_iff.1 hf.1
  have h1 := h.ol
  have h2 := h.hl
  have h3 := h.ct
  have hc : clashB x.hv f.off.toNat f.data.length = false := clashB_false fun j g1 g2 => h.fr j (by omega)
  refine ⟨by rw [jstep, if_pos ⟨hf.1, hf.2.1, hf.2.2.1⟩, hc, if_neg (by simp)], ⟨?_, ?_, fun j hj => ?_, by dsimp only; omega⟩⟩
  · rw [← h1]; exact putL_len (by omega)
  · rw [← h2]; exact putL_len (by rw [List.length_replicate]; omega)
  · dsimp only
    unfold fEnd at hj
    rw [putL_hi (by rw [List.length_replicate]; omega) (by rw [List.length_replicate]; omega)]
    exact h.fr j (by omega)
theorem jfold_ok {s t : Int} : ∀ {l : List Frg} {x : JS} {c b : Int}, JInv s x c b → Parts s t b l → ∃ y b', jfold s t x l = some y ∧ JInv s y (c + covP l) b'
  | [], x, c, b, h, _ => ⟨x, b, rfl, by rw [covP, Int.add_zero]; exact h⟩
  | f :: r, x, c, b, h, hp => by
    have h1 := hp.all f (by simp)
    obtain ⟨p1, p2⟩ := List.pairwise_cons.1 hp.pw
    have hr : Parts s t (fEnd f) r := ⟨fun x hx => by
      obtain ⟨e1, e2, e3, e4⟩ := hp.all x (by simp [hx])
      exact ⟨e1, e2, e3, p1 x hx⟩, p2⟩
    obtain ⟨e, i⟩ := jstep_ok h h1
    obtain ⟨y, b', e2, i2⟩ := jfold_ok i hr
    refine ⟨y, b', by rw [jfold, e]; exact e2, ?_⟩
    rw [covP, ← Int.add_assoc]; exact i2
/-- Parts of one datagram that do not cover it are not joined; all of it is. -/
theorem joinF_parts {s t : Int} {l : List Frg} (h : Parts s t 0 l) : (covP l < s → joinF l = none) ∧ (l ≠ [] → covP l = s → ∃ y, jfold s t (js0 s) l = some y ∧ joinF l = some y.out) := by
  rcases l with _ | ⟨f, r⟩
  · exact ⟨fun _ => rfl, fun h => absurd rfl h⟩
  · have h1 := h.all f (by simp)
    obtain ⟨y, b', e, i⟩ := jfold_ok (js0_inv s) h
    have e2 : joinF (f :: r) = if y.cnt = s then some y.out else none := by
      unfold joinF
      dsimp only
      rw [if_pos h1.1, h1.2.1, h1.2.2.1, e]
    have h3 := i.ct
    exact ⟨fun hc => by rw [e2, if_neg (by omega)], fun _ hc => ⟨y, e, by rw [e2, if_pos (by omega)]⟩⟩
theorem joinF_none {s t : Int} {l : List Frg} (h : partsOK s t l = true) : joinF l = none :=
  let ⟨h1, h2⟩ := partsOK_iff.1 h
  (joinF_parts h1).1 h2
/-! ### Adding -/
theorem Parts.at {s t b : Int} {l : List Frg} (h : Parts s t b l) {i j : Nat} (hij : i < j) (hj : j < l.length) : fEnd (gt l i) ≤ (gt l j).off := by
  rw [gt_eq (by omega), gt_eq hj]
  exact List.pairwise_iff_getElem.1 h.pw i j (by omega) hj hij
theorem Parts.ok {s t b : Int} {l : List Frg} (h : Parts s t b l) {i : Nat} (hi : i < l.length) : okF (gt l i) = true := (h.all _ (gt_mem hi)).1
theorem eqP_ovl {p f : Frg} (hf : okF f = true) (h : eqP p f = true) : ovl p f = true := by
  have ho := okF_iff.1 hf
  rw [eqP, decide_eq_true_eq] at h
  rw [ovl, decide_eq_true_eq]
  unfold fEnd
  rw [h.1, h.2]; omega
theorem posF_iff {s t b : Int} {l : List Frg} (h : Parts s t b l) (f : Frg) {i : Nat} (hi : i < l.length) : i < posF f l ↔ (gt l i).off < f.off := by
  constructor
  · intro hp
    have := bsA_lo (c := fun p : Frg => if p.off < f.off then -1 else 1) hp
    by_cases g : (gt l i).off < f.off
    · exact g
    · rw [if_neg g] at this; omega
  · intro hp
    by_cases g : i < posF f l
    · exact g
    · have hp2 : posF f l < l.length := by omega
      have h1 := bsA_hi (c := fun p : Frg => if p.off < f.off then -1 else 1) hp2
      have h2 : ¬ (gt l (posF f l)).off < f.off := fun g2 => h1 (by show (if (gt l (posF f l)).off < f.off then (-1 : Int) else 1) < 0; rw [if_pos g2]; omega)
      rcases Nat.lt_or_ge (posF f l) i with g3 | g3
      · have h3 := h.at g3 hi
        have h4 := okF_iff.1 (h.ok hp2)
        unfold fEnd at h3; omega
      · rw [show i = posF f l by omega] at hp; exact absurd hp h2
theorem posF_le (f : Frg) (l : List Frg) : posF f l ≤ l.length := bsA_le _ l
/-- The first part that has a byte in common decides. -/
theorem addP_eq {s t b : Int} {l : List Frg} (h : Parts s t b l) {f : Frg} {i : Nat} (hi : i < l.length) (he : eqP (gt l i) f = true) : addP l f = some l := by
  rw [addP, if_pos (List.any_eq_true.2 ⟨_, gt_mem hi, he⟩)]
theorem addP_clash {s t b : Int} {l : List Frg} (h : Parts s t b l) {f : Frg} (hf : okF f = true) {i : Nat} (hi : i < l.length) (ho : ovl (gt l i) f = true) (hn : ∀ j, j < i → ovl (gt l j) f = false) (he : eqP (gt l i) f = false) : addP l f = none := by
  have h1 : l.any (eqP · f) = false := by
    rw [List.any_eq_false]
    intro p hp hq
    obtain ⟨j, hj, rfl⟩ := List.mem_iff_getElem.1 hp
    rw [← gt_eq hj] at hq
    rcases Nat.lt_trichotomy j i with g | g | g
    · have := eqP_ovl hf hq
      rw [hn j g] at this; cases this
    · subst g; rw [he] at hq; cases hq
    · have h3 := h.at g hj
      rw [eqP, decide_eq_true_eq] at hq
      rw [ovl, decide_eq_true_eq] at ho
      omega
  rw [addP, h1, if_neg (by simp), if_pos (List.any_eq_true.2 ⟨_, gt_mem hi, ho⟩)]
theorem addP_ins {l : List Frg} {f : Frg} (hf : okF f = true) (hn : ∀ j, j < l.length → ovl (gt l j) f = false) : addP l f = some (insF f l) := by
  have h2 : l.any (ovl · f) = false := by
    rw [List.any_eq_false]
    intro p hp
    obtain ⟨j, hj, rfl⟩ := List.mem_iff_getElem.1 hp
    rw [← gt_eq hj, hn j hj]; simp
  have h1 : l.any (eqP · f) = false := by
    rw [List.any_eq_false] at h2 ⊢
    intro p hp hq
    exact h2 p hp (eqP_ovl hf hq)
  rw [addP, h1, if_neg (by simp), h2, if_neg (by simp)]
end Go.Fw
