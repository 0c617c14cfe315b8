/- Whole datagrams: the plain law of adding. -/
import Derived.Test.YteebplkhnhpiiaaRasW
namespace Go.Fw
set_option maxRecDepth 4000
open Go.Proofs
set_option maxHeartbeats 4000000
structure Dat where
  src : Adr
  dst : Adr
  tag : Int
  b : List UInt8
  f : List Frg
  hs : someA src = true
  hd : someA dst = true
  hb : 1 ≤ b.length ∧ b.length ≤ 2047
  ch : Chn b tag 0 f
namespace Dat
variable (D : Dat)
/-- The buffer of a datagram of which these parts were seen. -/
def buf (s : List Bool) (u : Int) : Buf := ⟨D.src, D.dst, D.tag, D.b.length, sel s D.f, u⟩
theorem ne : D.f ≠ [] := fun e => by
  have h := D.ch
  rw [e] at h
  have h : 0 = D.b.length := h
  have := D.hb
  omega
theorem pos : 0 < D.f.length := List.length_pos_iff.2 D.ne
/-- Some parts were seen, not all. -/
structure St (s : List Bool) (u : Int) : Prop where
  len : s.length = D.f.length
  some_ : ∃ j : Nat, s[j]? = some true
  not_ : s.all id = false
  tm : isTm u
theorem ok {k : Nat} (hk : k < D.f.length) : okF (gt D.f k) = true := (chn_parts D.ch).ok hk
theorem fields {k : Nat} (hk : k < D.f.length) : (gt D.f k).size = D.b.length ∧ (gt D.f k).tag = D.tag := by
  obtain ⟨_, h1, h2, _⟩ := (chn_parts D.ch).all _ (gt_mem hk)
  exact ⟨h1, h2⟩
theorem valid {s : List Bool} {u : Int} (h : D.St s u) : validB (D.buf s u) = true := by
  obtain ⟨j, hj⟩ := h.some_
  have hjl : j < D.f.length := by rw [← h.len]; exact (List.getElem?_eq_some_iff.1 hj).1
  have hne : sel s D.f ≠ [] := List.ne_nil_of_mem (mem_sel hjl hj)
  have hp := (join_some D.ch h.len h.not_).1
  rw [validB]
  simp only [Bool.and_eq_true, decide_eq_true_eq]
  exact ⟨D.hs, D.hd, h.tm, hne, hp⟩
theorem key {s : List Bool} {u : Int} {k : Nat} (hk : k < D.f.length) : keyF D.src D.dst (gt D.f k) (D.buf s u) = true := by
  obtain ⟨h1, h2⟩ := D.fields hk
  simp [keyF, buf, h1, h2]
theorem add_hit {l : List Buf} {i k : Nat} {s : List Bool} {u now : Int} (hv : validL l = true) (hx : ∀ x ∈ l, x.upto > now) (hn : isTm now) (hi : i < l.length) (hg : gt l i = D.buf s u) (hs : s.length = D.f.length) (hk : k < D.f.length) :
    addM l D.src D.dst (gt D.f k) now = if (s.set k true).all id = true then (l.eraseIdx i, D.b, 0) else (l.set i (D.buf (s.set k true) u), [], 0) := by
  have hE : expB l now = l := filter_all fun j hj => decide_eq_true (hx _ (gt_mem hj))
  have hkey := D.key (s := s) (u := u) hk
  have hvl := validL_iff.1 hv
  have hany : l.any (keyF D.src D.dst (gt D.f k)) = true := List.any_eq_true.2 ⟨_, gt_mem hi, by rw [hg]; exact hkey⟩
  have hidx : idxF (keyF D.src D.dst (gt D.f k)) l = (i : Int) := idxF_some hi (by rw [hg]; exact hkey) fun j hj => by
    have h1 := (hvl.2 i hi).2 j hj
    rw [hg] at h1
    obtain ⟨f1, f2⟩ := D.fields hk
    cases hc : keyF D.src D.dst (gt D.f k) (gt l j) with
    | false => rfl
    | true =>
      have hc : (gt l j).src = D.src ∧ (gt l j).dst = D.dst ∧ (gt l j).tag = (gt D.f k).tag ∧ (gt l j).size = (gt D.f k).size := by simpa [keyF] using hc
      have : keyB (gt l j) (D.buf s u) = true := keyB_iff.2 ⟨hc.1, hc.2.1, by rw [hc.2.2.1, f2]; rfl, by rw [hc.2.2.2, f1]; rfl⟩
      rw [h1] at this
      cases this
  have hw : withB (gt l i) (gt D.f k) (freshB D.src D.dst (gt D.f k) now) = D.buf (s.set k true) u := by
    rw [withB, hg, show (D.buf s u).parts = sel s D.f from rfl, addP_sel D.ch hs hk]
    rfl
  rw [addM_ok ⟨hv, D.hs, D.hd, D.ok hk⟩ hn, hE, if_pos hany, hidx, Int.toNat_natCast, hw, finB_eq (ps := sel (s.set k true) D.f) (by rw [gt_set hi, if_pos rfl]; rfl)]
  have hsl : (s.set k true).length = D.f.length := by rw [List.length_set]; exact hs
  cases ha : (s.set k true).all id with
  | true =>
    rw [sel_all hsl ha, join_all D.ch D.ne D.hb.1, if_pos rfl, if_pos rfl]
    congr 1
    rw [List.eraseIdx_eq_take_drop_succ, List.eraseIdx_eq_take_drop_succ]
    rw [List.take_set_of_le (Nat.le_refl i), List.drop_set_of_lt (by omega)]
  | false =>
    rw [(join_some D.ch hsl ha).2.1, if_neg (by simp), if_neg (by simp)]
def unit (k : Nat) : List Bool := (List.replicate D.f.length false).set k true
theorem sel_none {α : Type} : ∀ {n : Nat} {l : List α}, sel (List.replicate n false) l = []
  | 0, l => by cases l <;> rfl
  | n + 1, [] => rfl
  | n + 1, x :: r => by rw [List.replicate_succ, sel]; exact sel_none
theorem sel_unit {k : Nat} (hk : k < D.f.length) : sel (D.unit k) D.f = [gt D.f k] := by
  have h := addP_sel (s := List.replicate D.f.length false) D.ch (by simp) hk
  rw [sel_none, addP] at h
  simp only [List.any_nil, Bool.false_eq_true, if_false, Option.some.injEq] at h
  rw [unit, ← h]
  rfl
theorem unit_len (k : Nat) : (D.unit k).length = D.f.length := by simp [unit]
theorem add_new {l : List Buf} {k : Nat} {now : Int} (hv : validL l = true) (hx : ∀ x ∈ l, x.upto > now) (hn : isTm now) (hkey : ∀ x ∈ l, keyF D.src D.dst (gt D.f k) x = false) (hl : l.length < 4) (hk : k < D.f.length) :
    addM l D.src D.dst (gt D.f k) now = if (D.unit k).all id = true then (l, D.b, 0) else (l ++ [D.buf (D.unit k) (min (now + 12) 1099511627776)], [], 0) := by
  have hE : expB l now = l := filter_all fun j hj => decide_eq_true (hx _ (gt_mem hj))
  have hany : l.any (keyF D.src D.dst (gt D.f k)) = false := by
    rw [List.any_eq_false]
    intro x hx
    rw [hkey x hx]; simp
  obtain ⟨f1, f2⟩ := D.fields hk
  have hfr : freshB D.src D.dst (gt D.f k) now = D.buf (D.unit k) (min (now + 12) 1099511627776) := by
    unfold freshB buf
    rw [D.sel_unit hk, f1, f2]
  rw [addM_ok ⟨hv, D.hs, D.hd, D.ok hk⟩ hn, hE, hany, if_neg (by simp), if_neg (by omega), hfr, finB_eq (ps := sel (D.unit k) D.f) (by rw [gt_snoc]; rfl)]
  cases ha : (D.unit k).all id with
  | true =>
    rw [sel_all (D.unit_len k) ha, join_all D.ch D.ne D.hb.1, if_pos rfl, if_pos rfl, List.eraseIdx_append_of_length_le (Nat.le_refl _)]
    simp
  | false =>
    rw [(join_some D.ch (D.unit_len k) ha).2.1, if_neg (by simp), if_neg (by simp)]
theorem St.set {s : List Bool} {u : Int} (h : D.St s u) {k : Nat} (ha : (s.set k true).all id = false) : D.St (s.set k true) u := by
  obtain ⟨j, hj⟩ := h.some_
  refine ⟨by rw [List.length_set]; exact h.len, ⟨j, ?_⟩, ha, h.tm⟩
  rw [List.getElem?_set]
  split
  · rename_i e
    subst e
    rw [if_pos (List.getElem?_eq_some_iff.1 hj).1]
  · exact hj
theorem St.unit {k : Nat} {now : Int} (hk : k < D.f.length) (hn : isTm now) (ha : (D.unit k).all id = false) : D.St (D.unit k) (min (now + 12) 1099511627776) :=
  ⟨D.unit_len k, ⟨k, by simp [Dat.unit, hk]⟩, ha, by unfold isTm at *; omega⟩
end Dat
theorem validL_nil : validL [] = true := by decide
theorem validL_one {x : Buf} (h : validB x = true) : validL [x] = true := by simp [validL, h]
theorem validL_two {x y : Buf} (h : validB x = true) (g : validB y = true) (k : keyB x y = false) : validL [x, y] = true := by simp [validL, h, g, k]
end Go.Fw
