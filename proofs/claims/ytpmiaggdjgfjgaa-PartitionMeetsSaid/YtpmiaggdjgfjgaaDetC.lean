/- Registries: Owner; the reference's Insert. -/
import Derived.Test.YtpmiaggdjgfjgaaDetB
namespace Go.Fw
set_option maxRecDepth 4000
open Go.Proofs
set_option maxHeartbeats 4000000
theorem find_at {α : Type} [Inhabited α] {p : α → Bool} {l : List α} {k : Nat} (hk : k < l.length) (hp : p (gt l k) = true) (h : ∀ j, j < k → p (gt l j) = false) : l.find? p = some (gt l k) := by
  rw [List.find?_eq_some_iff_getElem]
  refine ⟨hp, k, hk, (gt_eq hk).symm, fun j hj => ?_⟩
  have := h j hj
  rw [gt_eq (by omega)] at this
  simp [this]
theorem find_none {α : Type} [Inhabited α] {p : α → Bool} {l : List α} (h : ∀ j, j < l.length → p (gt l j) = false) : l.find? p = none := by
  rw [List.find?_eq_none]
  intro x hx
  obtain ⟨i, hi, rfl⟩ := List.getElem_of_mem hx
  rw [← gt_eq hi, h i hi]; simp
/-- detection.Owner -/
def ownP (now : Int) (ip : IP) (c : Clm) : Bool := decide (c.ip = ip ∧ c.upto > now)
def ownM (r : List Clm) (now : Int) (ip : IP) : Int × Bool := if validR r = true ∧ 0 ≤ now ∧ now ≤ 1099511627776 then (match r.find? (ownP now ip) with | some c => (c.eui, true) | none => (0, false)) else (0, false)
theorem ip_beq (a b : IP) : (a.1 == b.1) = decide (a = b) := by
  rw [Bool.eq_iff_iff]
  simp only [beq_iff_eq, decide_eq_true_eq]
  exact ⟨ip_ext, fun h => h ▸ rfl⟩
/-- the reference's Insert -/
def pos {α : Type} (p : α → Bool) (l : List α) : Nat := (l.takeWhile p).length
theorem pos_eq {α : Type} [Inhabited α] {p : α → Bool} : ∀ {l : List α} {i : Nat}, i ≤ l.length → (∀ k, k < i → p (gt l k) = true) → (i < l.length → p (gt l i) = false) → pos p l = i
  | [], i, h, _, _ => by simp at h; subst h; rfl
  | a :: l, 0, _, _, h2 => by
    have : p a = false := h2 (by simp)
    simp [pos, List.takeWhile_cons, this]
  | a :: l, i + 1, h, h1, h2 => by
    have h0 : p a = true := h1 0 (by omega)
    have ih := pos_eq (p := p) (l := l) (i := i) (by simpa using h) (fun k hk => by have := h1 (k + 1) (by omega); simpa [gt] using this) (fun hi => by have := h2 (by simpa using hi); simpa [gt] using this)
    simp only [pos] at ih ⊢
    simp [List.takeWhile_cons, h0, ih]
def insQ (c x : Clm) : Bool := !decide (cmpIP c.ip x.ip < 0)
def insM (r : List Clm) (c : Clm) : List Clm := r.take (pos (insQ c) r) ++ [c] ++ r.drop (pos (insQ c) r)
structure InsI (r : List Clm) (c : Clm) where
  k : Nat
  d : Bool
  p : Nat
  hk : k ≤ r.length
  ok : match d with | false => ∀ j, j < k → insQ c (gt r j) = true | true => p < k ∧ (∀ j, j < p → insQ c (gt r j) = true) ∧ insQ c (gt r p) = false
def insO (r : List Clm) (c : Clm) (k : Nat) (d : Bool) (p : Nat) : List Clm := match d with | false => r.take k | true => r.take p ++ [c] ++ (r.take k).drop p
theorem insO_ff {r : List Clm} {c : Clm} {k p : Nat} (hk : k < r.length) : insO r c k false p ++ [gt r k] = insO r c (k + 1) false p := (take_gt hk).symm
theorem insO_tt {r : List Clm} {c : Clm} {k p : Nat} (hk : k < r.length) (hp : p < k) : insO r c k true p ++ [gt r k] = insO r c (k + 1) true p := by
  simp only [insO]
  rw [take_gt hk, List.drop_append_of_le_length (by rw [List.length_take]; omega), List.append_assoc]
theorem insO_new {r : List Clm} {c : Clm} {k p : Nat} (hk : k < r.length) : insO r c k false p ++ [c] ++ [gt r k] = insO r c (k + 1) true k := by
  simp only [insO]
  rw [take_gt hk, List.drop_append_of_le_length (by rw [List.length_take]; omega), List.drop_of_length_le (by rw [List.length_take]; omega), List.nil_append]
theorem insO_end {r : List Clm} {c : Clm} {p : Nat} (hp : p < r.length) (h1 : ∀ j, j < p → insQ c (gt r j) = true) (h2 : insQ c (gt r p) = false) : insO r c r.length true p = insM r c := by
  rw [insM, pos_eq (by omega) h1 (fun _ => h2)]
  simp [insO]
theorem insO_last {r : List Clm} {c : Clm} {p : Nat} (h1 : ∀ j, j < r.length → insQ c (gt r j) = true) : insO r c r.length false p ++ [c] = insM r c := by
  rw [insM, pos_eq (Nat.le_refl _) h1 (fun h => absurd h (Nat.lt_irrefl _))]
  simp [insO]
theorem insO_len {r : List Clm} {c : Clm} {k p : Nat} {d : Bool} (hk : k ≤ r.length) : (insO r c k d p).length ≤ r.length + 1 := by
  cases d <;> simp [insO] <;> omega
theorem k_refInsert (r : List Clm) (t : Tg) (c : Clm) (hl : r.length ≤ 100000) : Con Try.prog 59 [.fs t 20 (lst clmV r), clmV c] [] (.ov 20 0 0 (insM r c).length) [.arr none 20 (lst clmV (insM r c))] := by
  refine spec_of_run ttok mixed (T0 := 34376523643) (ts := [.tmp 4]) 41 rfl rfl rfl rfl (by simp) rfl ?_
  conv => whnf
  repeat' (first | (((with_reducible apply Nm.mk); focus ((try simp only [lns, ipRows_take]); exact rfl)) <;> conv => whnf) | fail)
  refine LoopN.adopt 5 20 rfl (by simp) ?_
  refine loop_keep ttok mixed (T0 := 34376523643) [3, 9, 10] (ι := InsI r c)
    (fun x => [(5, .ov 20 1 0 (insO r c x.k x.d x.p).length), (6, bool x.d), (11, int (x.k : Int))]) (fun x => [.cells (clmV c), .arr none 20 (lst clmV (insO r c x.k x.d x.p))]) (fun x => r.length - x.k) ⟨0, false, 0, by omega, none_lt⟩ ?_
  conv => whnf
  repeat' (first | ((first | (with_reducible apply Same.rfl) | (apply Same.int; focus rfl) | (apply Same.bool; focus (with_reducible rfl)) | (apply Same.ov; (focus rfl); focus rfl) | (apply Same.rfl)) <;> conv => whnf) | fail)
  rintro ⟨k, d, p, hk, ok⟩
  dsimp only
  have hlo := insO_len (r := r) (c := c) (p := p) (d := d) hk
  conv => whnf
  by_cases hkl : k < r.length
  · cases d
    · dsimp only at ok
      have f1 := insO_ff (c := c) (p := p) hkl
      have f2 := insO_new (c := c) (p := p) hkl
      have g1 : (insO r c k false p).length + 1 = (insO r c (k + 1) false p).length := by rw [← f1]; simp
      have g2 : (insO r c k false p).length + 1 + 1 = (insO r c (k + 1) true k).length := by rw [← f2]; simp
      repeat' (first | ((first | (with_reducible apply Nm.snoc _ (clm_mk _ _ _ _ _)) | ((with_reducible apply Nm.mk); focus ((try simp only [lns, ipRows_take]); exact rfl)) | ((with_reducible apply Wr.i64); focus omega) | ((with_reducible apply Need.mk); focus first | (simp only [lns, ipRows_take]; omega) | (unfold roomOK; simp only [lns, ipRows_take]; omega)) | ((with_reducible apply Elem.lst); focus omega) | (apply CallN.mk (k_CompareIP _ _)) | (with_reducible first | apply Bif.T | apply Bif.F) | ((with_reducible apply Bif.dec) <;> intro h <;> (try simp only [lns, ipRows_take] at h) <;> (try (exfalso; omega))) | (with_reducible apply Bif.not) | (with_reducible apply Alt.l)) <;> conv => whnf) | fail)
      · (refine ⟨⟨k + 1, true, k, by omega, by omega, ok, by simp only [insQ]; simp; omega⟩, ?_⟩; (try dsimp only); conv => whnf); repeat' (first | with_reducible apply True.intro | ((apply Same.ov rfl g2); (conv => whnf)) | ((apply Same.lst f2); (conv => whnf)) | ((first | ((with_reducible apply Need.mk); focus omega) | (with_reducible apply Same.rfl) | (apply Same.int; focus rfl) | (apply Same.bool; focus (with_reducible rfl)) | (with_reducible apply Turn.l)) <;> conv => whnf) | fail)
      · (refine ⟨⟨k + 1, false, p, by omega, step_lt ok (by simp only [insQ]; simp; omega)⟩, ?_⟩; (try dsimp only); conv => whnf); repeat' (first | with_reducible apply True.intro | ((apply Same.ov rfl g1); (conv => whnf)) | ((apply Same.lst f1); (conv => whnf)) | ((first | ((with_reducible apply Need.mk); focus omega) | (with_reducible apply Same.rfl) | (apply Same.int; focus rfl) | (with_reducible apply Turn.l)) <;> conv => whnf) | fail)
    · dsimp only at ok
      have f1 := insO_tt (c := c) (p := p) hkl ok.1
      have g1 : (insO r c k true p).length + 1 = (insO r c (k + 1) true p).length := by rw [← f1]; simp
      repeat' (first | ((first | (with_reducible apply Nm.snoc _ (clm_mk _ _ _ _ _)) | ((with_reducible apply Nm.mk); focus ((try simp only [lns, ipRows_take]); exact rfl)) | ((with_reducible apply Wr.i64); focus omega) | ((with_reducible apply Need.mk); focus first | (simp only [lns, ipRows_take]; omega) | (unfold roomOK; simp only [lns, ipRows_take]; omega)) | ((with_reducible apply Elem.lst); focus omega) | (with_reducible first | apply Bif.T | apply Bif.F) | ((with_reducible apply Bif.dec) <;> intro h <;> (try simp only [lns, ipRows_take] at h) <;> (try (exfalso; omega))) | (with_reducible apply Bif.not) | (with_reducible apply Alt.l)) <;> conv => whnf) | fail)
      (refine ⟨⟨k + 1, true, p, by omega, by omega, ok.2⟩, ?_⟩; (try dsimp only); conv => whnf); repeat' (first | with_reducible apply True.intro | ((apply Same.ov rfl g1); (conv => whnf)) | ((apply Same.lst f1); (conv => whnf)) | ((first | ((with_reducible apply Need.mk); focus omega) | (with_reducible apply Same.rfl) | (apply Same.int; focus rfl) | (with_reducible apply Turn.l)) <;> conv => whnf) | fail)
  · have hke : k = r.length := by omega
    subst hke
    cases d
    · dsimp only at ok
      have f1 := insO_last (c := c) (p := p) ok
      have g1 : (insO r c r.length false p).length + 1 = (insM r c).length := by rw [← f1]; simp
      repeat' (first | with_reducible apply True.intro | ((apply Same.mk g1); (conv => whnf)) | ((apply Same.lst f1); (conv => whnf)) | ((first | (with_reducible apply Nm.snoc _ (clm_mk _ _ _ _ _)) | ((with_reducible apply Nm.mk); focus ((try simp only [lns, ipRows_take]); exact rfl)) | ((with_reducible apply Need.mk); focus first | (simp only [lns, ipRows_take]; omega) | (unfold roomOK; simp only [lns, ipRows_take]; omega)) | (with_reducible apply Bif.F) | ((with_reducible apply Bif.dec) <;> intro h <;> (try simp only [lns, ipRows_take] at h) <;> (try (exfalso; omega))) | (with_reducible apply Bif.not) | (with_reducible apply Same.rfl) | (with_reducible first | apply Alt.l | apply Cut.l)) <;> conv => whnf) | fail)
    · dsimp only at ok
      have f1 := insO_end (c := c) ok.1 ok.2.1 ok.2.2
      rw [f1]
      repeat' (first | with_reducible apply True.intro | ((first | (with_reducible apply Bif.T) | ((with_reducible apply Bif.dec) <;> intro h <;> (try simp only [lns, ipRows_take] at h) <;> (try (exfalso; omega))) | (with_reducible apply Bif.not) | (with_reducible apply Same.rfl) | (with_reducible apply Cut.l)) <;> conv => whnf) | fail)
end Go.Fw
