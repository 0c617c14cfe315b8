/- Whole datagrams: the plain law of parts that are seen. -/
import Derived.Test.YteebplkhnhpiiaaRasU
namespace Go.Fw
set_option maxRecDepth 4000
open Go.Proofs
set_option maxHeartbeats 4000000
/-- The elements that are chosen. -/
def sel {α : Type} : List Bool → List α → List α
  | true :: s, x :: r => x :: sel s r
  | false :: s, _ :: r => sel s r
  | _, _ => []
theorem sel_mem {α : Type} [Inhabited α] : ∀ {s : List Bool} {l : List α} {x : α}, x ∈ sel s l → ∃ j, j < l.length ∧ s[j]? = some true ∧ x = gt l j
  | [], _, _, h => by simp [sel] at h
  | _ :: _, [], _, h => by simp [sel] at h
  | true :: s, y :: r, x, h => by
    rw [sel] at h
    rcases List.mem_cons.1 h with rfl | h
    · exact ⟨0, by simp, rfl, rfl⟩
    · obtain ⟨j, h1, h2, h3⟩ := sel_mem h
      exact ⟨j + 1, by simp; omega, h2, h3⟩
  | false :: s, y :: r, x, h => by
    rw [sel] at h
    obtain ⟨j, h1, h2, h3⟩ := sel_mem h
    exact ⟨j + 1, by simp; omega, h2, h3⟩
theorem mem_sel {α : Type} [Inhabited α] : ∀ {s : List Bool} {l : List α} {j : Nat}, j < l.length → s[j]? = some true → gt l j ∈ sel s l
  | [], _, _, _, h => by simp at h
  | _ :: _, [], _, h, _ => by simp at h
  | b :: s, y :: r, 0, _, h => by
    simp at h; subst h
    rw [sel]; exact List.mem_cons_self
  | b :: s, y :: r, j + 1, h, g => by
    have := mem_sel (s := s) (l := r) (j := j) (by simpa using h) (by simpa using g)
    cases b
    · rw [sel]; exact this
    · rw [sel]; exact List.mem_cons_of_mem _ this
theorem sel_all {α : Type} : ∀ {s : List Bool} {l : List α}, s.length = l.length → s.all id = true → sel s l = l
  | [], [], _, _ => rfl
  | [], _ :: _, h, _ => by simp at h
  | _ :: _, [], h, _ => by simp at h
  | b :: s, y :: r, h, g => by
    simp only [List.all_cons, Bool.and_eq_true, id] at g
    obtain ⟨rfl, g⟩ := g
    rw [sel, sel_all (by simpa using h) g]
section
variable {b : List UInt8} {tag : Int}
theorem chn_le : ∀ {l : List Frg} {a : Nat}, Chn b tag a l → a ≤ b.length
  | [], a, h => by have h : a = b.length := h; omega
  | f :: r, a, h => by have := chn_le h.2.2.2.2.2; omega
theorem sel_parts : ∀ {l : List Frg} {a : Nat} {s : List Bool}, Chn b tag a l → Parts b.length tag a (sel s l)
  | [], a, s, _ => by
    have : sel s ([] : List Frg) = [] := by cases s with | nil => rfl | cons x s => cases x <;> rfl
    rw [this]; exact ⟨by simp, .nil⟩
  | f :: r, a, [], _ => ⟨by simp [sel], .nil⟩
  | f :: r, a, false :: s, h => by
    have ih := sel_parts (s := s) h.2.2.2.2.2
    refine ⟨fun x hx => ?_, ih.pw⟩
    obtain ⟨h1, h2, h3, h4⟩ := ih.all x hx
    exact ⟨h1, h2, h3, by omega⟩
  | f :: r, a, true :: s, h => by
    obtain ⟨h1, h2, h3, h4, h5, h6⟩ := h
    have ih := sel_parts (s := s) h6
    rw [sel]
    refine ⟨fun x hx => ?_, List.pairwise_cons.2 ⟨fun x hx => ?_, ih.pw⟩⟩
    · rcases List.mem_cons.1 hx with rfl | hx
      · exact ⟨h4, h1, h2, by omega⟩
      · obtain ⟨g1, g2, g3, g4⟩ := ih.all x hx
        exact ⟨g1, g2, g3, by omega⟩
    · have := (ih.all x hx).2.2.2
      unfold fEnd
      omega
theorem sel_cov : ∀ {l : List Frg} {a : Nat} {s : List Bool}, Chn b tag a l → s.length = l.length → covP (sel s l) ≤ b.length - a ∧ (s.all id = true → covP (sel s l) = b.length - a) ∧ (s.all id = false → covP (sel s l) < b.length - a)
  | [], a, [], h, _ => by
    have h : a = b.length := h
    simp [sel, covP]; omega
  | [], a, _ :: _, _, h => by simp at h
  | f :: r, a, [], _, h => by simp at h
  | f :: r, a, false :: s, h, hs => by
    have h4 := okF_iff.1 h.2.2.2.1
    have h6 := h.2.2.2.2.2
    have ih := (sel_cov (s := s) h6 (by simpa using hs)).1
    have := chn_le h6
    rw [sel]
    refine ⟨by omega, fun h => by simp at h, fun _ => by omega⟩
  | f :: r, a, true :: s, h, hs => by
    have h4 := okF_iff.1 h.2.2.2.1
    have h6 := h.2.2.2.2.2
    obtain ⟨i1, i2, i3⟩ := sel_cov (s := s) h6 (by simpa using hs)
    have := chn_le h6
    rw [sel, covP]
    refine ⟨by omega, fun h => ?_, fun h => ?_⟩
    · have := i2 (by simpa using h); omega
    · have := i3 (by simpa using h); omega
/-- Inserted, step by step. -/
def insG (f : Frg) : List Frg → List Frg
  | [] => [f]
  | p :: r => if p.off < f.off then p :: insG f r else f :: p :: r
theorem insF_insG (f : Frg) : ∀ (l : List Frg), insF f l = insG f l
  | [] => rfl
  | p :: r => by
    unfold insG
    by_cases h : p.off < f.off
    · rw [if_pos h, ← insF_insG f r]
      have : posF f (p :: r) = posF f r + 1 := by
        unfold posF bsA
        simp [List.takeWhile_cons, h]
      unfold insF
      rw [this]
      simp
    · rw [if_neg h]
      have : posF f (p :: r) = 0 := by
        unfold posF bsA
        simp [List.takeWhile_cons, h]
      unfold insF
      rw [this]
      simp
theorem insG_first {f : Frg} : ∀ {l : List Frg}, (∀ x ∈ l, ¬ x.off < f.off) → insG f l = f :: l
  | [], _ => rfl
  | p :: r, h => by rw [insG, if_neg (h p (by simp))]
theorem insG_sel : ∀ {l : List Frg} {a : Nat} {s : List Bool} {k : Nat}, Chn b tag a l → s.length = l.length → k < l.length → s[k]? = some false → insG (gt l k) (sel s l) = sel (s.set k true) l
  | [], _, _, _, _, _, h, _ => by simp at h
  | f :: r, a, [], k, _, h, _, _ => by simp at h
  | f :: r, a, x :: s, 0, h, hs, _, hk => by
    simp at hk; subst hk
    have hp := sel_parts (s := s) h.2.2.2.2.2
    have h4 := okF_iff.1 h.2.2.2.1
    have h3 := h.2.2.1
    rw [List.set_cons_zero, sel, sel]
    refine insG_first fun y hy => ?_
    have := (hp.all y hy).2.2.2
    show ¬ y.off < f.off
    omega
  | f :: r, a, x :: s, k + 1, h, hs, hk, hsk => by
    have h6 := h.2.2.2.2.2
    have h4 := okF_iff.1 h.2.2.2.1
    have ih := insG_sel (s := s) (k := k) h6 (by simpa using hs) (by simpa using hk) (by simpa using hsk)
    have e : gt (f :: r) (k + 1) = gt r k := rfl
    rw [e, List.set_cons_succ]
    cases x
    · rw [sel, sel]; exact ih
    · have hp := sel_parts (s := List.replicate r.length true) h6
      have hm : gt r k ∈ sel (List.replicate r.length true) r := mem_sel (by simpa using hk) (by rw [List.getElem?_replicate, if_pos (by simpa using hk)])
      have := (hp.all _ hm).2.2.2
      have h3 := h.2.2.1
      rw [sel, sel, insG, if_pos (by omega), ih]
theorem chn_parts {l : List Frg} {a : Nat} (h : Chn b tag a l) : Parts b.length tag a l := by
  have := sel_parts (s := List.replicate l.length true) h
  rwa [sel_all (by simp) (by simp)] at this
theorem chn_apart {l : List Frg} {a j k : Nat} (h : Chn b tag a l) (hj : j < l.length) (hk : k < l.length) (hjk : j ≠ k) : ovl (gt l j) (gt l k) = false := by
  have hp := chn_parts h
  rw [ovl_ff]
  rcases Nat.lt_or_gt_of_ne hjk with h1 | h1
  · have := hp.at h1 hk; unfold fEnd at this; omega
  · have := hp.at h1 hj; unfold fEnd at this; omega
/-- One more part. -/
theorem addP_sel {l : List Frg} {a : Nat} {s : List Bool} {k : Nat} (h : Chn b tag a l) (hs : s.length = l.length) (hk : k < l.length) : addP (sel s l) (gt l k) = some (sel (s.set k true) l) := by
  have hsk : k < s.length := by omega
  cases hb : s[k] with
  | true =>
    have hst : s.set k true = s := by rw [← hb]; exact List.set_getElem_self hsk
    rw [hst, addP, if_pos]
    exact List.any_eq_true.2 ⟨_, mem_sel hk (by rw [List.getElem?_eq_getElem hsk, hb]), by simp [eqP]⟩
  | false =>
    have hok := (chn_parts h).ok hk
    rw [addP_ins hok, insF_insG, insG_sel h hs hk (by rw [List.getElem?_eq_getElem hsk, hb])]
    intro j hj
    obtain ⟨i, h1, h2, h3⟩ := sel_mem (gt_mem hj)
    rw [h3]
    refine chn_apart h h1 hk fun e => ?_
    subst e
    rw [List.getElem?_eq_getElem hsk, hb] at h2
    cases h2
/-- All of it is joined. -/
theorem chn_join : ∀ {l : List Frg} {a : Nat} {x : JS} {c : Int}, Chn b tag a l → JInv b.length x c a → x.out = b.take a ++ List.replicate (b.length - a) 0 → ∃ y, jfold b.length tag x l = some y ∧ y.out = b ∧ y.cnt = c + (b.length - a)
  | [], a, x, c, h, hj, hx => by
    have h : a = b.length := h
    refine ⟨x, rfl, ?_, ?_⟩
    · rw [hx, h, List.take_length, Nat.sub_self]; simp
    · have := hj.ct; omega
  | f :: r, a, x, c, h, hj, hx => by
    obtain ⟨h1, h2, h3, h4, h5, h6⟩ := h
    obtain ⟨e, i⟩ := jstep_ok hj ⟨h4, h1, h2, by omega⟩
    have hle := chn_le h6
    have ho : f.off.toNat = a := by omega
    have he : (fEnd f : Int) = ((a + f.data.length : Nat) : Int) := by unfold fEnd; omega
    rw [he] at i
    obtain ⟨y, g1, g2, g3⟩ := chn_join h6 i (by
      dsimp only
      rw [hx, ho, putL]
      have l1 : (b.take a).length = a := by rw [List.length_take]; omega
      rw [List.take_append_of_le_length (by omega), List.take_of_length_le (by omega), List.drop_append, l1, List.drop_eq_nil_of_le (by omega), List.nil_append, List.drop_replicate]
      rw [List.take_add, ← h5]
      congr 2
      omega)
    refine ⟨y, by rw [jfold, e]; exact g1, g2, by rw [g3]; omega⟩
theorem join_all {l : List Frg} (h : Chn b tag 0 l) (hl : l ≠ []) (hb : 1 ≤ b.length) : joinR l = (b, true) := by
  have hp := chn_parts h
  have hc := (sel_cov (s := List.replicate l.length true) h (by simp)).2.1 (by simp)
  rw [sel_all (by simp) (by simp)] at hc
  obtain ⟨y, e1, e2⟩ := (joinF_parts (s := (b.length : Int)) (t := tag) hp).2 hl (by omega)
  obtain ⟨z, g1, g2, _⟩ := chn_join h (js0_inv b.length) (by simp [js0])
  rw [e1] at g1
  cases g1
  unfold joinR
  rw [e2, g2]
theorem join_some {l : List Frg} {s : List Bool} (h : Chn b tag 0 l) (hs : s.length = l.length) (hn : s.all id = false) : partsOK b.length tag (sel s l) = true ∧ (joinR (sel s l)).2 = false ∧ (joinR (sel s l)).1 = [] := by
  have hp := sel_parts (s := s) h
  have hc := (sel_cov (s := s) h hs).2.2 hn
  have ok : partsOK b.length tag (sel s l) = true := partsOK_iff.2 ⟨hp, by omega⟩
  have := joinF_none ok
  refine ⟨ok, ?_, ?_⟩
  · rw [joinR_isNone, this]; rfl
  · unfold joinR; rw [this]
end
end Go.Fw
