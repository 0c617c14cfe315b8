/- Reassembly: the plain law of parts, of joining and of adding. -/
import Derived.Test.YtlkhjalnnciocaaGreatRas0
namespace Go.Fw
set_option maxRecDepth 4000
open Go.Proofs
set_option maxHeartbeats 4000000
/-! ### Parts -/
structure Parts (s t b : Int) (l : List Frg) : Prop where
  all : ∀ f ∈ l, okF f = true ∧ f.size = s ∧ f.tag = t ∧ b ≤ f.off
  pw : l.Pairwise fun a c => fEnd a ≤ c.off
def covP : List Frg → Int
  | [] => 0
  | f :: r => f.data.length + covP r
theorem chkP_parts {s t : Int} : ∀ {l : List Frg} {c b c' : Int}, chkP s t c b l = some c' → Parts s t b l ∧ c' = c + covP l
  | [], c, b, c', h => by
    simp only [chkP, Option.some.injEq] at h
    exact ⟨⟨by simp, .nil⟩, by simp [covP, h]⟩
  | f :: r, c, b, c', h => by
    unfold chkP at h
    split at h
    · rename_i g
      obtain ⟨g1, g2, g3, g4⟩ := g
      obtain ⟨⟨h1, h2⟩, h3⟩ := chkP_parts h
      have ho := okF_iff.1 g1
      refine ⟨⟨fun x hx => ?_, List.pairwise_cons.2 ⟨fun x hx => (h1 x hx).2.2.2, h2⟩⟩, by rw [h3, covP]; omega⟩
      rcases List.mem_cons.1 hx with rfl | hx
      · exact ⟨g1, g2, g3, g4⟩
      · obtain ⟨e1, e2, e3, e4⟩ := h1 x hx
        exact ⟨e1, e2, e3, by unfold fEnd at e4; omega⟩
    · cases h
theorem chkP_of {s t : Int} : ∀ {l : List Frg} {c b : Int}, Parts s t b l → chkP s t c b l = some (c + covP l)
  | [], c, b, _ => by simp [chkP, covP]
  | f :: r, c, b, h => by
    have h1 := h.all f (by simp)
    obtain ⟨p1, p2⟩ := List.pairwise_cons.1 h.pw
    have hr : Parts s t (fEnd f) r := ⟨fun x hx => by
      obtain ⟨e1, e2, e3, e4⟩ := h.all x (by simp [hx])
      exact ⟨e1, e2, e3, p1 x hx⟩, p2⟩
    rw [chkP, if_pos h1, chkP_of hr, covP]
    congr 1; omega
theorem partsOK_iff {s t : Int} {l : List Frg} : partsOK s t l = true ↔ Parts s t 0 l ∧ covP l < s := by
  unfold partsOK
  constructor
  · intro h
    split at h
    · rename_i c hc
      obtain ⟨h1, h2⟩ := chkP_parts hc
      rw [decide_eq_true_eq] at h
      exact ⟨h1, by omega⟩
    · cases h
  · rintro ⟨h1, h2⟩
    rw [chkP_of h1]
    simpa using h2
theorem Parts.cov {s t : Int} : ∀ {l : List Frg} {b : Int}, Parts s t b l → b ≤ s → covP l ≤ s - b ∧ (l.length : Int) ≤ covP l
  | [], b, _, h => by simp [covP]; omega
  | f :: r, b, h, hb => by
    have h1 := h.all f (by simp)
    have ho := okF_iff.1 h1.1
    obtain ⟨p1, p2⟩ := List.pairwise_cons.1 h.pw
    have hr : Parts s t (fEnd f) r := ⟨fun x hx => by
      obtain ⟨e1, e2, e3, e4⟩ := h.all x (by simp [hx])
      exact ⟨e1, e2, e3, p1 x hx⟩, p2⟩
    have ih := hr.cov (by unfold fEnd; omega)
    unfold fEnd at ih
    rw [covP, List.length_cons]
    omega
theorem Parts.len {s t : Int} {l : List Frg} (h : Parts s t 0 l) : l.length ≤ 2047 := by
  rcases l with _ | ⟨f, r⟩
  · simp
  · have h1 := h.all f (by simp)
    have ho := okF_iff.1 h1.1
    have := h.cov (by omega)
    omega
/-! ### Joining -/
theorem putL_len {α : Type} {l d : List α} {o : Nat} (h : o + d.length ≤ l.length) : (putL l o d).length = l.length := by
  simp only [putL, List.length_append, List.length_take, List.length_drop]; omega
theorem putL_hi {α : Type} {l d : List α} {o j : Nat} (h : o + d.length ≤ l.length) (hj : o + d.length ≤ j) : (putL l o d)[j]? = l[j]? := by
  have e1 : (l.take o).length = o := by rw [List.length_take]; omega
  rw [putL, List.getElem?_append_right (by rw [List.length_append]; omega), List.getElem?_drop]
  congr 1
  rw [List.length_append]; omega
theorem putL_zero {α : Type} (l : List α) (o : Nat) : putL l o [] = l := by simp [putL]
theorem putL_step {α : Type} {l d : List α} {o : Nat} {x : α} (h : o + d.length < l.length) : (putL l o d).set (o + d.length) x = putL l o (d ++ [x]) := by
  have e1 : (l.take o ++ d).length = o + d.length := by rw [List.length_append, List.length_take]; omega
  unfold putL
  rw [List.set_append_right _ _ (by omega), e1, Nat.sub_self, List.drop_eq_getElem_cons h]
  simp only [List.set_cons_zero, List.length_append, List.length_cons, List.length_nil, List.append_assoc, List.cons_append, List.nil_append]
  rfl
theorem putL_at {α : Type} {l d : List α} {o j : Nat} (h : o + d.length ≤ j) (hl : o + d.length ≤ l.length) : (putL l o d).getD j = l.getD j := by
  funext z
  simp only [List.getD_eq_getElem?_getD, putL_hi hl h]
theorem clashB_false {h : List Bool} {o n : Nat} (g : ∀ j, o ≤ j → j < o + n → h[j]? ≠ some true) : clashB h o n = false := by
  rw [clashB, List.any_eq_false]
  intro x hx
  obtain ⟨i, hi, rfl⟩ := List.mem_iff_getElem.1 hx
  have hi2 := hi
  simp only [List.length_take, List.length_drop] at hi2
  rw [List.getElem_take, List.getElem_drop]
  have := g (o + i) (by omega) (by omega)
  rw [List.getElem?_eq_getElem (by omega)] at this
  simpa using this
theorem clashB_true {h : List Bool} {o n j : Nat} (h1 : o ≤ j) (h2 : j < o + n) (g : h[j]? = some true) : clashB h o n = true := by
  have hj := (List.getElem?_eq_some_iff.1 g)
  obtain ⟨hl, e⟩ := hj
  rw [clashB, List.any_eq_true]
  refine ⟨true, ?_, rfl⟩
  rw [List.mem_iff_getElem]
  refine ⟨j - o, by simp only [List.length_take, List.length_drop]; omega, ?_⟩
  rw [List.getElem_take, List.getElem_drop]
  simpa [show o + (j - o) = j by omega] using e
/-- What is known while parts are joined. -/
structure JInv (s : Int) (x : JS) (c b : Int) : Prop where
  ol : x.out.length = s.toNat
  hl : x.hv.length = s.toNat
  fr : ∀ j : Nat, b ≤ (j : Int) → x.hv[j]? ≠ some true
  ct : x.cnt = c
theorem js0_inv (s : Int) : JInv s (js0 s) 0 0 := ⟨by simp [js0], by simp [js0], fun j _ h => by
  simp only [js0, List.getElem?_replicate] at h
  split at h <;> simp at h, rfl⟩
theorem jstep_ok {s t : Int} {x : JS} {f : Frg} {c b : Int} (h : JInv s x c b) (hf : okF f = true ∧ f.size = s ∧ f.tag = t ∧ b ≤ f.off) :
    jstep s t x f = some ⟨putL x.out f.off.toNat f.data, putL x.hv f.off.toNat (List.replicate f.data.length true), x.cnt + f.data.length⟩ ∧ JInv s ⟨putL x.out f.off.toNat f.data, putL x.hv f.off.toNat (List.replicate f.data.length true), x.cnt + f.data.length⟩ (c + f.data.length) (fEnd f) := by
  have ho := okF_iff.1 hf.1
  have h1 := h.ol
  have h2 := h.hl
  have h3 := h.ct
  have hc : clashB x.hv f.off.toNat f.data.length = false := clashB_false fun j g1 g2 => h.fr j (by omega)
  refine ⟨by rw [jstep, if_pos ⟨hf.1, hf.2.1, hf.2.2.1⟩, hc, if_neg (by simp)], ⟨?_, ?_, fun j hj => ?_, by dsimp only; omega⟩⟩
  · rw [← h1]; exact putL_len (by omega)
  · rw [← h2]; exact putL_len (by rw [List.length_replicate]; omega)
  · dsimp only
    unfold fEnd at hj
    rw [putL_hi (by rw [List.length_replicate]; omega) (by rw [List.length_replicate]; omega)]
    exact h.fr j (by omega)
theorem jfold_ok {s t : Int} : ∀ {l : List Frg} {x : JS} {c b : Int}, JInv s x c b → Parts s t b l → ∃ y b', jfold s t x l = some y ∧ JInv s y (c + covP l) b'
  | [], x, c, b, h, _ => ⟨x, b, rfl, by rw [covP, Int.add_zero]; exact h⟩
  | f :: r, x, c, b, h, hp => by
    have h1 := hp.all f (by simp)
    obtain ⟨p1, p2⟩ := List.pairwise_cons.1 hp.pw
    have hr : Parts s t (fEnd f) r := ⟨fun x hx => by
      obtain ⟨e1, e2, e3, e4⟩ := hp.all x (by simp [hx])
      exact ⟨e1, e2, e3, p1 x hx⟩, p2⟩
    obtain ⟨e, i⟩ := jstep_ok h h1
    obtain ⟨y, b', e2, i2⟩ := jfold_ok i hr
    refine ⟨y, b', by rw [jfold, e]; exact e2, ?_⟩
    rw [covP, ← Int.add_assoc]; exact i2
/-- Parts of one datagram that do not cover it are not joined; all of it is. -/
theorem joinF_parts {s t : Int} {l : List Frg} (h : Parts s t 0 l) : (covP l < s → joinF l = none) ∧ (l ≠ [] → covP l = s → ∃ y, jfold s t (js0 s) l = some y ∧ joinF l = some y.out) := by
  rcases l with _ | ⟨f, r⟩
  · exact ⟨fun _ => rfl, fun h => absurd rfl h⟩
  · have h1 := h.all f (by simp)
    obtain ⟨y, b', e, i⟩ := jfold_ok (js0_inv s) h
    have e2 : joinF (f :: r) = if y.cnt = s then some y.out else none := by
      unfold joinF
      dsimp only
      rw [if_pos h1.1, h1.2.1, h1.2.2.1, e]
    have h3 := i.ct
    exact ⟨fun hc => by rw [e2, if_neg (by omega)], fun _ hc => ⟨y, e, by rw [e2, if_pos (by omega)]⟩⟩
theorem joinF_none {s t : Int} {l : List Frg} (h : partsOK s t l = true) : joinF l = none :=
  let ⟨h1, h2⟩ := partsOK_iff.1 h
  (joinF_parts h1).1 h2
/-- The reference's own test. -/
theorem partsOK_join {s t : Int} {l : List Frg} (h : Parts s t 0 l) (hl : l ≠ []) : partsOK s t l = (joinF l).isNone := by
  obtain ⟨h1, h2⟩ := joinF_parts h
  rw [Bool.eq_iff_iff, partsOK_iff]
  constructor
  · rintro ⟨_, h3⟩; rw [h1 h3]; rfl
  · intro h3
    refine ⟨h, ?_⟩
    rcases l with _ | ⟨f, r⟩
    · exact absurd rfl hl
    · have ho := okF_iff.1 (h.all f (by simp)).1
      have hs := (h.all f (by simp)).2.1
      have hc := h.cov (by omega)
      by_cases h4 : covP (f :: r) = s
      · obtain ⟨y, _, e⟩ := h2 hl h4
        rw [e] at h3; cases h3
      · omega
/-! ### Adding -/
theorem Parts.at {s t b : Int} {l : List Frg} (h : Parts s t b l) {i j : Nat} (hij : i < j) (hj : j < l.length) : fEnd (gt l i) ≤ (gt l j).off := by
  rw [gt_eq (by omega), gt_eq hj]
  exact List.pairwise_iff_getElem.1 h.pw i j (by omega) hj hij
theorem Parts.ok {s t b : Int} {l : List Frg} (h : Parts s t b l) {i : Nat} (hi : i < l.length) : okF (gt l i) = true := (h.all _ (gt_mem hi)).1
theorem eqP_ovl {p f : Frg} (hf : okF f = true) (h : eqP p f = true) : ovl p f = true := by
  have ho := okF_iff.1 hf
  rw [eqP, decide_eq_true_eq] at h
  rw [ovl, decide_eq_true_eq]
  unfold fEnd
  rw [h.1, h.2]; omega
theorem posF_iff {s t b : Int} {l : List Frg} (h : Parts s t b l) (f : Frg) {i : Nat} (hi : i < l.length) : i < posF f l ↔ (gt l i).off < f.off := by
  constructor
  · intro hp
    have := bsA_lo (c := fun p : Frg => if p.off < f.off then -1 else 1) hp
    by_cases g : (gt l i).off < f.off
    · exact g
    · rw [if_neg g] at this; omega
  · intro hp
    by_cases g : i < posF f l
    · exact g
    · have hp2 : posF f l < l.length := by omega
      have h1 := bsA_hi (c := fun p : Frg => if p.off < f.off then -1 else 1) hp2
      have h2 : ¬ (gt l (posF f l)).off < f.off := fun g2 => h1 (by show (if (gt l (posF f l)).off < f.off then (-1 : Int) else 1) < 0; rw [if_pos g2]; omega)
      rcases Nat.lt_or_ge (posF f l) i with g3 | g3
      · have h3 := h.at g3 hi
        have h4 := okF_iff.1 (h.ok hp2)
        unfold fEnd at h3; omega
      · rw [show i = posF f l by omega] at hp; exact absurd hp h2
theorem posF_le (f : Frg) (l : List Frg) : posF f l ≤ l.length := bsA_le _ l
/-- The first part that has a byte in common decides. -/
theorem addP_eq {s t b : Int} {l : List Frg} (h : Parts s t b l) {f : Frg} {i : Nat} (hi : i < l.length) (he : eqP (gt l i) f = true) : addP l f = some l := by
  rw [addP, if_pos (List.any_eq_true.2 ⟨_, gt_mem hi, he⟩)]
theorem addP_clash {s t b : Int} {l : List Frg} (h : Parts s t b l) {f : Frg} (hf : okF f = true) {i : Nat} (hi : i < l.length) (ho : ovl (gt l i) f = true) (hn : ∀ j, j < i → ovl (gt l j) f = false) (he : eqP (gt l i) f = false) : addP l f = none := by
  have h1 : l.any (eqP · f) = false := by
    rw [List.any_eq_false]
    intro p hp hq
    obtain ⟨j, hj, rfl⟩ := List.mem_iff_getElem.1 hp
    rw [← gt_eq hj] at hq
    rcases Nat.lt_trichotomy j i with g | g | g
    · have := eqP_ovl hf hq
      rw [hn j g] at this; cases this
    · subst g; rw [he] at hq; cases hq
    · have h3 := h.at g hj
      rw [eqP, decide_eq_true_eq] at hq
      rw [ovl, decide_eq_true_eq] at ho
      omega
  rw [addP, h1, if_neg (by simp), if_pos (List.any_eq_true.2 ⟨_, gt_mem hi, ho⟩)]
theorem addP_ins {l : List Frg} {f : Frg} (hf : okF f = true) (hn : ∀ j, j < l.length → ovl (gt l j) f = false) : addP l f = some (insF f l) := by
  have h2 : l.any (ovl · f) = false := by
    rw [List.any_eq_false]
    intro p hp
    obtain ⟨j, hj, rfl⟩ := List.mem_iff_getElem.1 hp
    rw [← gt_eq hj, hn j hj]; simp
  have h1 : l.any (eqP · f) = false := by
    rw [List.any_eq_false] at h2 ⊢
    intro p hp hq
    exact h2 p hp (eqP_ovl hf hq)
  rw [addP, h1, if_neg (by simp), h2, if_neg (by simp)]
end Go.Fw
