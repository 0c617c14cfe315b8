/- ReactiveFinds: the states and the messages of the program along the flood. -/
import Derived.Test.YtmblmljcjmmlgaaFinA
namespace Go.Fw
set_option maxRecDepth 4000
open Go.Proofs
set_option maxHeartbeats 4000000
namespace Fnd
def nx (q : List Nat) : Int := ((q.tail.headD 0 : Nat) : Int) + 1
def qP (q : List Nat) : Pth := ⟨1, nx q, ⟨1, (pc q : Int)⟩, false, 26⟩
def pP (T : Nat) (p : List Nat) : Pth := ⟨(T : Int) + 1, nx p, ⟨0, (pc p : Int)⟩, false, 26⟩
def sP (q : List Nat) : Pth := ⟨1, 0, ⟨1, (pc q : Int)⟩, false, 26⟩
def oL {α : Type} (f : List Nat → α) : Option (List Nat) → List α
  | none => []
  | some q => [f q]
def ps (T : Nat) (a b : Option (List Nat)) : List Pth := oL qP a ++ oL (pP T) b
def reaS (s n : Int) (T : Nat) (a b : Option (List Nat)) (D : List Dsc) : Rea := ⟨s, n, ps T a b, D, oL sP a⟩
def srG (T : Nat) (P : Gh) (v : Nat) : List Dsc := if v = 0 ∧ P 0 = none then [⟨(T : Int) + 1, 3, 13⟩] else []
def reaG (T : Nat) (Q P : Gh) (v : Nat) : Rea := reaS ((v : Int) + 1) (if v = 0 then 1 else 0) T (Q v) (P v) (srG T P v)
def reqM (T : Nat) (q : List Nat) : Msg := ⟨1, 1, (T : Int) + 1, 1, 0, false, (pc q : Int), 33 - (q.length : Int)⟩
def repM (T : Nat) (p : List Nat) : Msg := ⟨2, 1, (T : Int) + 1, 0, 0, false, (pc p : Int), 33 - (p.length : Int)⟩
def msgG (T : Nat) (f : Fl) : Msg := if f.rep = true then repM T f.p else reqM T f.p
theorem lat26 : lat 6 20 = 26 := by decide
theorem fa1 (T : Nat) (hT : 1 ≤ T) (a b : Option (List Nat)) : fndP (ps T a b) 1 = a.isSome ∧ atP (ps T a b) 1 = 0 := by
  have h1 : cmpI 1 1 = 0 := by decide
  have h2 : cmpI ((T : Int) + 1) 1 = 1 := by unfold cmpI; rw [if_neg (by omega), if_pos (by omega)]
  cases a <;> cases b <;> simp [ps, oL, fndP, atP, fndK, atK, bsF, bsA, qP, pP, h1, h2, gt]
theorem faT (T : Nat) (hT : 1 ≤ T) (a b : Option (List Nat)) : fndP (ps T a b) ((T : Int) + 1) = b.isSome ∧ atP (ps T a b) ((T : Int) + 1) = (oL qP a).length := by
  have h1 : cmpI 1 ((T : Int) + 1) = -1 := by unfold cmpI; rw [if_pos (by omega)]
  have h2 : cmpI ((T : Int) + 1) ((T : Int) + 1) = 0 := by unfold cmpI; rw [if_neg (by omega), if_neg (by omega)]
  cases a <;> cases b <;> simp [ps, oL, fndP, atP, fndK, atK, bsF, bsA, qP, pP, h1, h2, gt]
theorem faS (a : Option (List Nat)) : fndP (oL sP a) 1 = a.isSome ∧ atP (oL sP a) 1 = 0 := by
  have h1 : cmpI 1 1 = 0 := by decide
  cases a <;> simp [oL, fndP, atP, fndK, atK, bsF, bsA, sP, h1, gt]
theorem cmpD_one {q a b : Int} : cmpD ⟨q, a⟩ ⟨q, b⟩ = -1 ↔ a < b := by
  rw [cmpD_lt]
  constructor
  · rintro ⟨_, h | h⟩
    · rw [show newer q q = false from newer_self q] at h; cases h
    · exact h.2
  · intro h
    refine ⟨fun e => ?_, .inr ⟨rfl, h⟩⟩
    have : a = b := congrArg Dis.metric e
    omega
theorem see_no {s n : Int} {T : Nat} {r : List Nat} {b : Option (List Nat)} {D : List Dsc} {d : Int} (h : ¬ d < pc r) : (seeM (reaS s n T (some r) b D) 6 1 ⟨1, d⟩).2 = false := by
  obtain ⟨h1, h2⟩ := faS (some r)
  unfold seeM
  rw [if_pos]
  refine ⟨?_, ?_⟩
  · show (fndP (oL sP (some r)) 1 && decide ((6 : Int) < (gt (oL sP (some r)) (atP (oL sP (some r)) 1)).upto)) = true
    rw [h1, h2]; rfl
  · show cmpD ⟨1, d⟩ (gt (oL sP (some r)) (atP (oL sP (some r)) 1)).own ≠ -1
    rw [h2]
    exact fun g => h (cmpD_one.1 g)
theorem see_yes {s n : Int} {T : Nat} {a b : Option (List Nat)} {D : List Dsc} {d : Int} (h : ∀ r, a = some r → d < pc r) :
    seeM (reaS s n T a b D) 6 1 ⟨1, d⟩ = (⟨s, n, ps T a b, D, [⟨1, 0, ⟨1, d⟩, false, 26⟩]⟩, true) := by
  obtain ⟨h1, h2⟩ := faS a
  unfold seeM
  rw [if_neg, if_neg]
  · show (({ reaS s n T a b D with seen := putP (oL sP a) (seeX 6 1 ⟨1, d⟩) } : Rea), true) = _
    unfold putP
    rw [show (seeX 6 1 ⟨1, d⟩).to = 1 from rfl, h1, h2]
    unfold seeX
    rw [lat26]
    cases a <;> rfl
  · rintro ⟨_, g⟩
    have : (oL sP a).length ≤ 1 := by cases a <;> simp [oL]
    have g : (oL sP a).length ≥ 64 := g
    omega
  · rintro ⟨g1, g2⟩
    cases a with
    | none => cases g1
    | some r =>
      have g2 : cmpD ⟨1, d⟩ (gt (oL sP (some r)) (atP (oL sP (some r)) 1)).own ≠ -1 := g2
      rw [h2] at g2
      exact g2 (cmpD_one.2 (h r rfl))
theorem off_req {s n : Int} {T : Nat} (hT : 1 ≤ T) {a b : Option (List Nat)} {D : List Dsc} {S : List Pth} {d nb : Int} (hs : s ≠ 1) (hd : d ≠ 65535) (h : ∀ r, a = some r → d < pc r) :
    (offM ⟨s, n, ps T a b, D, S⟩ 6 1 nb ⟨1, d⟩).1 = ⟨s, n, ⟨1, nb, ⟨1, d⟩, false, 26⟩ :: oL (pP T) b, D, S⟩ := by
  obtain ⟨h1, h2⟩ := fa1 T hT a b
  unfold offM
  rw [if_neg (by rintro (g | g); exact hs g.symm; exact hd g), if_neg, if_neg]
  · show ({ (⟨s, n, ps T a b, D, S⟩ : Rea) with paths := putP (ps T a b) (offX 6 1 nb ⟨1, d⟩) } : Rea) = _
    unfold putP
    rw [show (offX 6 1 nb ⟨1, d⟩).to = 1 from rfl, h1, h2]
    unfold offX
    rw [lat26]
    cases a <;> rfl
  · rintro ⟨_, g⟩
    have : (ps T a b).length ≤ 2 := by cases a <;> cases b <;> simp [ps, oL]
    have g : (ps T a b).length ≥ 64 := g
    omega
  · rintro ⟨g1, g2, _⟩
    cases a with
    | none => unfold curP at g1; dsimp only at g1; rw [h1] at g1; cases g1
    | some r =>
      have g2 : cmpD ⟨1, d⟩ (gt (ps T (some r) b) (atP (ps T (some r) b) 1)).own ≠ -1 := g2
      rw [h2] at g2
      exact g2 (cmpD_one.2 (h r rfl))
theorem gtT {T : Nat} {a : Option (List Nat)} {r : List Nat} : gt (ps T a (some r)) (oL qP a).length = pP T r := by cases a <;> rfl
theorem off_yes {s n : Int} {T : Nat} (hT : 1 ≤ T) {a b : Option (List Nat)} {D : List Dsc} {S : List Pth} {d nb : Int} (hs : s ≠ (T : Int) + 1) (hd : d ≠ 65535) (h : ∀ r, b = some r → d < pc r ∨ (d = pc r ∧ nx r = nb)) :
    offM ⟨s, n, ps T a b, D, S⟩ 6 ((T : Int) + 1) nb ⟨0, d⟩ = (⟨s, n, oL qP a ++ [⟨(T : Int) + 1, nb, ⟨0, d⟩, false, 26⟩], D, S⟩, true) := by
  obtain ⟨h1, h2⟩ := faT T hT a b
  unfold offM
  rw [if_neg (by rintro (g | g); exact hs g.symm; exact hd g), if_neg, if_neg]
  · show (({ (⟨s, n, ps T a b, D, S⟩ : Rea) with paths := putP (ps T a b) (offX 6 ((T : Int) + 1) nb ⟨0, d⟩) } : Rea), true) = _
    unfold putP
    rw [show (offX 6 ((T : Int) + 1) nb ⟨0, d⟩).to = (T : Int) + 1 from rfl, h1, h2]
    unfold offX
    rw [lat26]
    cases a <;> cases b <;> rfl
  · rintro ⟨_, g⟩
    have : (ps T a b).length ≤ 2 := by cases a <;> cases b <;> simp [ps, oL]
    have g : (ps T a b).length ≥ 64 := g
    omega
  · rintro ⟨g1, g2, g3⟩
    cases b with
    | none => unfold curP at g1; dsimp only at g1; rw [h1] at g1; cases g1
    | some r =>
      dsimp only at g2 g3
      rw [h2, gtT] at g2 g3
      rcases h r rfl with h | ⟨h, h'⟩
      · exact g2 (cmpD_one.2 h)
      · exact g3 ⟨rfl, h', by rw [h]; rfl⟩
theorem off_no {s n : Int} {T : Nat} (hT : 1 ≤ T) {a : Option (List Nat)} {r : List Nat} {D : List Dsc} {S : List Pth} {d nb : Int} (h : ¬ (d < pc r ∨ (d = pc r ∧ nx r = nb))) :
    (offM ⟨s, n, ps T a (some r), D, S⟩ 6 ((T : Int) + 1) nb ⟨0, d⟩).2 = false := by
  obtain ⟨h1, h2⟩ := faT T hT a (some r)
  unfold offM
  split
  · rfl
  rw [if_pos]
  dsimp only
  refine ⟨?_, ?_, ?_⟩
  · unfold curP; rw [h1, h2, gtT]; rfl
  · rw [h2, gtT]; exact fun g => h (.inl (cmpD_one.1 g))
  · rw [h2, gtT]
    rintro ⟨_, g1, g2⟩
    exact h (.inr ⟨(congrArg Dis.metric g2).symm, g1⟩)
/-! ### Hear -/
structure HOK (T : Nat) (Q P : Gh) (x : Nat) : Prop where
  t : 1 ≤ T ∧ T ≤ 1000
  hx : x ≤ 1000
  hq : ∀ q, Q x = some q → x ≠ 0 ∧ pc q ≤ 1000
  hp : ∀ p, P x = some p → x ≠ T ∧ pc p ≤ 1000
theorem HOK.rv {T : Nat} {Q P : Gh} {x : Nat} (h : HOK T Q P x) : ReaV (reaG T Q P x) := by
  obtain ⟨⟨t1, t2⟩, hx, hq, hp⟩ := h
  have oq : ∀ q, Q x = some q → pathOK ((x : Int) + 1) (qP q) = true ∧ seenOK ((x : Int) + 1) (sP q) = true := fun q e => by
    have := hq q e
    refine ⟨pathOK_iff.2 ⟨⟨by show (1 : Int) ≠ 0; omega, by show (1 : Int) ≠ (x : Int) + 1; omega⟩, ?_, ?_, ?_, by show (0 : Int) ≤ 26; omega, by show (26 : Int) ≤ _; omega⟩, seenOK_iff.2 ⟨⟨by show (1 : Int) ≠ 0; omega, by show (1 : Int) ≠ (x : Int) + 1; omega⟩, rfl, rfl, ?_, ?_, by show (0 : Int) ≤ 26; omega, by show (26 : Int) ≤ _; omega⟩⟩
    · show nx q ≠ 0; unfold nx; omega
    · show okM (pc q : Int) = true; simp [okM]; omega
    · show (pc q : Int) ≠ 65535; omega
    · show okM (pc q : Int) = true; simp [okM]; omega
    · show (pc q : Int) ≠ 65535; omega
  have op : ∀ p, P x = some p → pathOK ((x : Int) + 1) (pP T p) = true := fun p e => by
    have := hp p e
    refine pathOK_iff.2 ⟨⟨by show (T : Int) + 1 ≠ 0; omega, by show (T : Int) + 1 ≠ (x : Int) + 1; omega⟩, ?_, ?_, ?_, by show (0 : Int) ≤ 26; omega, by show (26 : Int) ≤ _; omega⟩
    · show nx p ≠ 0; unfold nx; omega
    · show okM (pc p : Int) = true; simp [okM]; omega
    · show (pc p : Int) ≠ 65535; omega
  have hlt : cmpI 1 ((T : Int) + 1) < 0 := by unfold cmpI; rw [if_pos (by omega)]; decide
  refine ⟨fun y hy => ?_, fun y hy => ?_, fun y hy => ?_, validX_iff.2 ⟨by show (x : Int) + 1 ≠ 0; omega, ?_, ?_, ?_⟩⟩
  · rcases List.mem_append.1 (show y ∈ ps T (Q x) (P x) from hy) with h | h
    · cases e : Q x with
      | none => rw [e] at h; cases h
      | some q => rw [e] at h; rw [List.mem_singleton.1 h]; show (0 : Int) ≤ 1; omega
    · cases e : P x with
      | none => rw [e] at h; cases h
      | some q => rw [e] at h; rw [List.mem_singleton.1 h]; show (0 : Int) ≤ (T : Int) + 1; omega
  · have hy : y ∈ srG T P x := hy
    unfold srG at hy
    split at hy
    · rw [List.mem_singleton.1 hy]; show (0 : Int) ≤ (T : Int) + 1; omega
    · cases hy
  · have hy : y ∈ oL sP (Q x) := hy
    cases e : Q x with
    | none => rw [e] at hy; cases hy
    | some q => rw [e] at hy; rw [List.mem_singleton.1 hy]; show (0 : Int) ≤ 1; omega
  · show okL 64 (pathOK ((x : Int) + 1)) cmpI Pth.to (ps T (Q x) (P x)) = true
    cases e : Q x <;> cases e' : P x
    · exact okI_nil
    · exact okI_one (by omega) (op _ e')
    · exact okI_one (by omega) (oq _ e).1
    · refine okL_iff_pw.2 ⟨by simp [ps, oL], fun y hy => ?_, ?_⟩
      · simp [ps, oL] at hy
        rcases hy with rfl | rfl
        · exact (oq _ e).1
        · exact op _ e'
      · refine List.pairwise_cons.2 ⟨fun y hy => ?_, List.pairwise_singleton _ _⟩
        have hy : y ∈ [pP T _] := hy
        rw [List.mem_singleton.1 hy]
        show (1 : Int) < (T : Int) + 1
        omega
  · show okL 64 (dscOK ((x : Int) + 1)) cmpI Dsc.to (srG T P x) = true
    unfold srG
    split
    · rename_i h
      exact okI_one (by omega) (dscOK_iff.2 ⟨⟨by show (T : Int) + 1 ≠ 0; omega, by show (T : Int) + 1 ≠ (x : Int) + 1; omega⟩, by show (1 : Int) ≤ 3 ∧ (3 : Int) ≤ 3; omega, by show (0 : Int) ≤ 13; omega, by show (13 : Int) ≤ _; omega⟩)
    · exact okI_nil
  · show okL 64 (seenOK ((x : Int) + 1)) cmpI Pth.to (oL sP (Q x)) = true
    cases e : Q x
    · exact okI_nil
    · exact okI_one (by omega) (oq _ e).2
theorem vReq {T : Nat} {q : List Nat} (hT : T ≤ 1000) (h : pc q ≤ 1000) (hl : 1 ≤ q.length ∧ q.length ≤ 5) : vMsg (reqM T q) = true :=
  vMsg_iff.2 ⟨by show (T : Int) + 1 ≠ 0; omega, by show okM (pc q : Int) = true; simp [okM]; omega, by show (1 : Int) ≤ 33 - (q.length : Int) ∧ 33 - (q.length : Int) ≤ 32; omega, .inr rfl, .inl ⟨rfl, by show (1 : Int) ≠ 0; omega⟩⟩
theorem vRep {T : Nat} {q : List Nat} (hT : T ≤ 1000) (h : pc q ≤ 1000) (hl : 1 ≤ q.length ∧ q.length ≤ 5) : vMsg (repM T q) = true :=
  vMsg_iff.2 ⟨by show (T : Int) + 1 ≠ 0; omega, by show okM (pc q : Int) = true; simp [okM]; omega, by show (1 : Int) ≤ 33 - (q.length : Int) ∧ 33 - (q.length : Int) ≤ 32; omega, .inr rfl, .inr (.inl ⟨rfl, by show (1 : Int) ≠ 0; omega, rfl⟩)⟩
theorem addG {m c : Nat} (h : m ≤ 1000) (hc : c ≤ 1000) : addC (m : Int) (c : Int) = ((m + c : Nat) : Int) := by
  unfold addC
  rw [if_pos ⟨by simp [okM]; omega, by simp [okM]; omega⟩]; omega
section
variable {T : Nat} {Q P : Gh} {x y c : Nat} {q p : List Nat} (H : HOK T Q P x) (hy : y ≤ 1000) (hxy : y ≠ x) (hl : 1 ≤ q.length ∧ q.length ≤ 5) (hq : pc q ≤ 1000) (hc : 1 ≤ c ∧ c ≤ 1000) (hd : pc q + c = pc (x :: q)) (hh : q.headD 0 = y)
include H hy hxy hl hq hc hd hh
theorem hear_req {R : Rea × List Snd} (h : hReq (reaG T Q P x) 6 ((y : Int) + 1) ⟨1, (pc (x :: q) : Int)⟩ (reqM T q) = R) : hearM (reaG T Q P x) 6 ((y : Int) + 1) (c : Int) (reqM T q) = (R.1, R.2, 0) := by
  unfold hearM
  rw [if_pos ⟨H.rv.v, vReq H.t.2 hq hl, by omega, by show (y : Int) + 1 ≠ (x : Int) + 1; omega⟩, if_pos ⟨⟨by omega, by omega⟩, by omega, by omega⟩, if_neg (by show (1 : Int) ≠ 3; omega)]
  rw [show addC (reqM T q).cost (c : Int) = ((pc q + c : Nat) : Int) from addG hq hc.2, hd, if_neg (by omega), if_pos (show (reqM T q).kind = 1 from rfl)]
  show ((hReq (reaG T Q P x) 6 ((y : Int) + 1) ⟨1, (pc (x :: q) : Int)⟩ (reqM T q)).1, (hReq (reaG T Q P x) 6 ((y : Int) + 1) ⟨1, (pc (x :: q) : Int)⟩ (reqM T q)).2, (0 : Int)) = _
  rw [h]
theorem hear_rep {R : Rea × List Snd} (h : hRep (reaG T Q P x) 6 ((y : Int) + 1) ⟨0, (pc (x :: q) : Int)⟩ (repM T q) = R) : hearM (reaG T Q P x) 6 ((y : Int) + 1) (c : Int) (repM T q) = (R.1, R.2, 0) := by
  unfold hearM
  rw [if_pos ⟨H.rv.v, vRep H.t.2 hq hl, by omega, by show (y : Int) + 1 ≠ (x : Int) + 1; omega⟩, if_pos ⟨⟨by omega, by omega⟩, by omega, by omega⟩, if_neg (by show (2 : Int) ≠ 3; omega)]
  rw [show addC (repM T q).cost (c : Int) = ((pc q + c : Nat) : Int) from addG hq hc.2, hd, if_neg (by omega), if_neg (show (repM T q).kind ≠ 1 by show (2 : Int) ≠ 1; omega)]
  show ((hRep (reaG T Q P x) 6 ((y : Int) + 1) ⟨0, (pc (x :: q) : Int)⟩ (repM T q)).1, (hRep (reaG T Q P x) 6 ((y : Int) + 1) ⟨0, (pc (x :: q) : Int)⟩ (repM T q)).2, (0 : Int)) = _
  rw [h]
/-- A request that changes nothing. -/
theorem hear_noQ (h : x = 0 ∨ accQ Q x q = false) : hearM (reaG T Q P x) 6 ((y : Int) + 1) (c : Int) (reqM T q) = (reaG T Q P x, [], 0) := by
  refine hear_req H hy hxy hl hq hc hd hh (R := (reaG T Q P x, [])) ?_
  unfold hReq
  by_cases h0 : x = 0
  · rw [if_pos (by subst h0; rfl)]
  · rw [if_neg (by show ¬ (1 : Int) = (x : Int) + 1; omega), if_pos]
    rcases h with h | h
    · exact absurd h h0
    · unfold accQ at h
      cases e : Q x with
      | none => rw [e] at h; cases h
      | some r =>
        rw [e] at h
        dsimp only at h
        rw [decide_eq_false_iff_not] at h
        unfold reaG
        rw [e]
        exact see_no (by omega)
theorem hear_yesQ (h0 : x ≠ 0) (h : accQ Q x q = true) : hearM (reaG T Q P x) 6 ((y : Int) + 1) (c : Int) (reqM T q) =
    (reaG T (upd Q x (x :: q)) P x, if x = T then [⟨(y : Int) + 1, repM T [T]⟩] else [⟨0, reqM T (x :: q)⟩], 0) := by
  have hlt : ∀ r, Q x = some r → (pc (x :: q) : Int) < pc r := fun r e => by
    unfold accQ at h
    rw [e] at h
    have := of_decide_eq_true h
    omega
  have hs := see_yes (s := (x : Int) + 1) (n := if x = 0 then 1 else 0) (T := T) (b := P x) (D := srG T P x) hlt
  have ho := off_req (s := (x : Int) + 1) (n := if x = 0 then 1 else 0) H.t.1 (b := P x) (D := srG T P x) (S := [⟨1, 0, ⟨1, (pc (x :: q) : Int)⟩, false, 26⟩]) (nb := (y : Int) + 1) (by omega) (by omega) hlt
  have hG : reaG T (upd Q x (x :: q)) P x = ⟨(x : Int) + 1, if x = 0 then 1 else 0, ⟨1, (y : Int) + 1, ⟨1, (pc (x :: q) : Int)⟩, false, 26⟩ :: oL (pP T) (P x), srG T P x, [⟨1, 0, ⟨1, (pc (x :: q) : Int)⟩, false, 26⟩]⟩ := by
    unfold reaG reaS
    rw [upd_same]
    show (⟨_, _, qP (x :: q) :: _, _, [sP (x :: q)]⟩ : Rea) = _
    unfold qP sP nx
    rw [List.tail_cons, hh]
    rfl
  refine hear_req H hy hxy hl hq hc hd hh (R := (reaG T (upd Q x (x :: q)) P x, if x = T then [⟨(y : Int) + 1, repM T [T]⟩] else [⟨0, reqM T (x :: q)⟩])) ?_
  have hs : seeM (reaG T Q P x) 6 1 ⟨1, (pc (x :: q) : Int)⟩ = _ := hs
  unfold hReq
  rw [if_neg (by show ¬ (1 : Int) = (x : Int) + 1; omega)]
  simp only [show (reqM T q).org = 1 from rfl]
  rw [hs, if_neg (by simp), ho]
  by_cases hx : x = T
  · rw [if_pos (by show (T : Int) + 1 = (x : Int) + 1; omega)]
    refine Prod.ext ?_ ?_
    · show _ = reaG T (upd Q x (x :: q)) P x
      rw [hG]
      rfl
    · show [(⟨(y : Int) + 1, ⟨2, 1, (x : Int) + 1, if x = 0 then 1 else 0, 0, false, 0, 32⟩⟩ : Snd)] = if x = T then _ else _
      rw [if_neg h0, if_pos hx, hx]
      rfl
  · rw [if_neg (by show ¬ (T : Int) + 1 = (x : Int) + 1; omega), if_neg (by show ¬ 33 - (q.length : Int) ≤ 1; omega)]
    refine Prod.ext (by show _ = reaG T (upd Q x (x :: q)) P x; rw [hG]) ?_
    show [(⟨0, ⟨1, 1, (T : Int) + 1, 1, 0, false, (pc (x :: q) : Int), 33 - (q.length : Int) - 1⟩⟩ : Snd)] = if x = T then _ else _
    rw [if_neg hx]
    show _ = [(⟨0, ⟨1, 1, (T : Int) + 1, 1, 0, false, (pc (x :: q) : Int), 33 - ((x :: q).length : Int)⟩⟩ : Snd)]
    rw [show (33 : Int) - (q.length : Int) - 1 = 33 - ((x :: q).length : Int) by simp only [List.length_cons]; omega]
theorem hear_noP (h : x = T ∨ accP P x q = false) (hp1 : ∀ r, P x = some r → r.tail ≠ []) (hq1 : q ≠ []) : hearM (reaG T Q P x) 6 ((y : Int) + 1) (c : Int) (repM T q) = (reaG T Q P x, [], 0) := by
  refine hear_rep H hy hxy hl hq hc hd hh (R := (reaG T Q P x, [])) ?_
  unfold hRep
  rw [if_pos]
  by_cases hx : x = T
  · unfold offM
    rw [if_pos (.inl (by show (T : Int) + 1 = (x : Int) + 1; omega))]
  · rcases h with h | h
    · exact absurd h hx
    · unfold accP at h
      cases e : P x with
      | none => rw [e] at h; cases h
      | some r =>
        rw [e] at h
        dsimp only at h
        rw [decide_eq_false_iff_not] at h
        unfold reaG reaS
        rw [e]
        refine off_no H.t.1 fun g => h ?_
        rcases g with g | ⟨g1, g2⟩
        · exact .inl (by omega)
        · refine .inr ⟨by omega, ?_⟩
          unfold nx at g2
          omega
theorem hear_yesP (hx : x ≠ T) (h : accP P x q = true) : hearM (reaG T Q P x) 6 ((y : Int) + 1) (c : Int) (repM T q) =
    (reaG T Q (upd P x (x :: q)) x, if x = 0 then [] else (match Q x with | some r => [⟨nx r, repM T (x :: q)⟩] | none => []), 0) := by
  have hlt : ∀ r, P x = some r → (pc (x :: q) : Int) < pc r ∨ ((pc (x :: q) : Int) = pc r ∧ nx r = (y : Int) + 1) := fun r e => by
    unfold accP at h
    rw [e] at h
    rcases of_decide_eq_true h with h | ⟨h1, h2⟩
    · exact .inl (by omega)
    · refine .inr ⟨by omega, ?_⟩
      unfold nx
      omega
  have ho := off_yes (s := (x : Int) + 1) (n := if x = 0 then 1 else 0) H.t.1 (a := Q x) (D := srG T P x) (S := oL sP (Q x)) (d := (pc (x :: q) : Int)) (nb := (y : Int) + 1) (by omega) (by omega) hlt
  have hpp : oL qP (Q x) ++ [(⟨(T : Int) + 1, (y : Int) + 1, ⟨0, (pc (x :: q) : Int)⟩, false, 26⟩ : Pth)] = ps T (Q x) (some (x :: q)) := by
    show _ = oL qP (Q x) ++ [pP T (x :: q)]
    unfold pP nx
    rw [List.tail_cons, hh]
  rw [hpp] at ho
  refine hear_rep H hy hxy hl hq hc hd hh (R := (reaG T Q (upd P x (x :: q)) x, if x = 0 then [] else (match Q x with | some r => [⟨nx r, repM T (x :: q)⟩] | none => []))) ?_
  have ho : offM (reaG T Q P x) 6 (repM T q).to ((y : Int) + 1) ⟨0, (pc (x :: q) : Int)⟩ = _ := ho
  unfold hRep
  simp only [ho]
  rw [if_neg (by simp)]
  have hD : ∀ v, v ≠ 0 → srG T (upd P x (x :: q)) v = srG T P v := fun v hv => by
    unfold srG
    rw [if_neg (by simp [hv]), if_neg (by simp [hv])]
  by_cases h0 : x = 0
  · rw [if_pos (show (repM T q).org = (reaG T Q P x).self by subst h0; rfl)]
    refine Prod.ext ?_ (by show [] = if x = 0 then _ else _; rw [if_pos h0])
    show (⟨(x : Int) + 1, _, ps T (Q x) (some (x :: q)), delD (srG T P x) ((T : Int) + 1), oL sP (Q x)⟩ : Rea) = reaS _ _ T (Q x) (upd P x (x :: q) x) (srG T (upd P x (x :: q)) x)
    rw [upd_same]
    have e1 : delD (srG T P x) ((T : Int) + 1) = [] := by
      unfold srG
      split
      · have h2 : cmpI ((T : Int) + 1) ((T : Int) + 1) = 0 := by unfold cmpI; rw [if_neg (by omega), if_neg (by omega)]
        simp [delD, fndD, atD, fndK, atK, bsF, bsA, h2, gt]
      · rfl
    have e2 : srG T (upd P x (x :: q)) x = [] := by
      unfold srG
      rw [if_neg]
      rintro ⟨_, g⟩
      rw [← h0, upd_same] at g
      cases g
    rw [e1, e2]
    rfl
  · obtain ⟨k1, k2⟩ := fa1 T H.t.1 (Q x) (some (x :: q))
    rw [if_neg (show ¬ (repM T q).org = (reaG T Q P x).self by show ¬ (1 : Int) = (x : Int) + 1; omega)]
    have hG : (⟨(x : Int) + 1, if x = 0 then 1 else 0, ps T (Q x) (some (x :: q)), srG T P x, oL sP (Q x)⟩ : Rea) = reaG T Q (upd P x (x :: q)) x := by
      unfold reaG reaS
      rw [upd_same, hD x h0]
    simp only [show (repM T q).org = 1 from rfl]
    cases e : Q x with
    | none =>
      rw [if_pos]
      · exact Prod.ext (by show _ = reaG T Q (upd P x (x :: q)) x; rw [← hG, e]) (by show [] = if x = 0 then _ else _; rw [if_neg h0])
      · left
        unfold usbP curP
        rw [e] at k1
        rw [k1]; rfl
    | some r =>
      rw [e] at k1 k2
      rw [if_neg]
      · refine Prod.ext (by show _ = reaG T Q (upd P x (x :: q)) x; rw [← hG, e]) ?_
        rw [k2]
        refine Eq.trans ?_ (if_neg h0).symm
        show [(⟨nx r, ⟨2, 1, (T : Int) + 1, 0, 0, false, (pc (x :: q) : Int), 33 - (q.length : Int) - 1⟩⟩ : Snd)] = [⟨nx r, ⟨2, 1, (T : Int) + 1, 0, 0, false, (pc (x :: q) : Int), 33 - ((x :: q).length : Int)⟩⟩]
        rw [show (33 : Int) - (q.length : Int) - 1 = 33 - ((x :: q).length : Int) by simp only [List.length_cons]; omega]
      · rintro (g | g)
        · unfold usbP curP at g
          rw [k1, k2] at g
          cases g
        · have g : 33 - (q.length : Int) ≤ 1 := g
          omega
end
end Fnd
end Go.Fw
