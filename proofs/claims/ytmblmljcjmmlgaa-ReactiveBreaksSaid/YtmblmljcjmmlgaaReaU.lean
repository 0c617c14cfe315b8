/- Reactive: small states, in plain form (for Ends and Breaks). -/
import Derived.Test.YtmblmljcjmmlgaaReaR
namespace Go.Fw
open Go.Proofs
set_option maxHeartbeats 4000000
theorem okI_nil {α : Type} [Inhabited α] {n : Nat} {ok : α → Bool} {κ : α → Int} : okL n ok cmpI κ [] = true := okL_iff_pw.2 ⟨by simp, fun x h => (by cases h), .nil⟩
theorem okI_one {α : Type} [Inhabited α] {n : Nat} {ok : α → Bool} {κ : α → Int} {x : α} (hn : 1 ≤ n) (h : ok x = true) : okL n ok cmpI κ [x] = true :=
  okL_iff_pw.2 ⟨by simpa using hn, fun y hy => by rw [List.mem_singleton.1 hy]; exact h, List.pairwise_singleton _ _⟩
theorem usb_nil (now t : Int) : usbP [] now t = false := rfl
theorem cur_nil (now t : Int) : curP [] now t = false := rfl
theorem fnd_nil (t : Int) : fndP [] t = false := rfl
theorem fndP_one (p : Pth) : fndP [p] p.to = true ∧ atP [p] p.to = 0 := by
  have h : fndP [p] p.to = true ∧ atP [p] p.to = 0 := by
    have hk := key_other cmpI_ok2 (n := 1) (ok := fun _ => true) (κ := Pth.to) (l := [p]) (t := p.to) (okI_one (Nat.le_refl 1) rfl) (i := 0) (by simp) rfl
    exact ⟨(fndK_iff cmpI_ok2).2 ⟨by rw [← hk]; simp, by rw [← hk]; rfl⟩, hk.symm⟩
  exact h
/-! ### One search -/
def oneD (self n t l a : Int) : Rea := ⟨self, n, [], [⟨t, l, a⟩], []⟩
theorem oneD_v {self n t l a : Int} (hs : self ≠ 0) (ht : t ≠ 0) (hst : self ≠ t) (hl : 1 ≤ l ∧ l ≤ 3) (ha : isT a) : validX (oneD self n t l a) = true :=
  validX_iff.2 ⟨hs, okI_nil, okI_one (by omega) (dscOK_iff.2 ⟨⟨ht, fun h => hst h.symm⟩, hl, ha.1, ha.2⟩), okI_nil⟩
theorem oneD_ok {self n t l a : Int} (h0 : 0 ≤ t) : ReaOK (oneD self n t l a) := ⟨fun x h => (by cases h), fun x h => by rw [List.mem_singleton.1 h]; exact h0, fun x h => (by cases h), by simp [oneD], by simp [oneD], by simp [oneD]⟩
theorem seek_one {self t now : Int} (hs : self ≠ 0) (ht : t ≠ 0) (hst : self ≠ t) (hn : isT now) : seekM (startM self) now t = (oneD self 1 t 3 (lat now 8), [⟨0, ⟨1, self, t, 1, 0, false, 0, 32⟩⟩], 0) := by
  unfold seekM
  rw [if_pos ⟨startV hs, ht, fun h => hst h.symm⟩, if_pos hn, if_neg (by simp [startM, usb_nil]; rfl), if_neg (by simp [startM])]
  rfl
section
variable {self n t l a at_ : Int} (hs : self ≠ 0) (ht : t ≠ 0) (hst : self ≠ t) (hl : 1 ≤ l ∧ l ≤ 3) (ha : isT a) (hn : isT at_)
include hs ht hst hl ha hn
theorem tick_wait (h : at_ < a) : tickM (oneD self n t l a) at_ = (oneD self n t l a, [], 0) := by
  unfold tickM
  rw [if_pos (oneD_v hs ht hst hl ha), if_pos hn]
  have e : tickS (oneD self n t l a) at_ (oneD self n t l a).srch.length = ⟨n, [⟨t, l, a⟩], []⟩ := by
    show tickStep self [] at_ ⟨n, [], []⟩ ⟨t, l, a⟩ = _
    unfold tickStep
    rw [if_pos (show at_ < (⟨t, l, a⟩ : Dsc).again from h)]; rfl
  rw [e]; rfl
theorem tick_more (h : a ≤ at_) (h1 : 1 < l) : tickM (oneD self n t l a) at_ = (oneD self (w16 (n + 1)) t (l - 1) (lat at_ 8), [⟨0, ⟨1, self, t, w16 (n + 1), 0, false, 0, 32⟩⟩], 0) := by
  unfold tickM
  rw [if_pos (oneD_v hs ht hst hl ha), if_pos hn]
  have e : tickS (oneD self n t l a) at_ (oneD self n t l a).srch.length = ⟨w16 (n + 1), [⟨t, l - 1, lat at_ 8⟩], [⟨0, ⟨1, self, t, w16 (n + 1), 0, false, 0, 32⟩⟩]⟩ := by
    show tickStep self [] at_ ⟨n, [], []⟩ ⟨t, l, a⟩ = _
    unfold tickStep
    rw [if_neg (show ¬ at_ < (⟨t, l, a⟩ : Dsc).again from by show ¬ at_ < a; omega), if_neg (by rw [usb_nil]; show ¬ (l = 1 ∨ false = true); simp; omega)]; rfl
  rw [e]; rfl
theorem tick_last (h : a ≤ at_) (h1 : l = 1) : tickM (oneD self n t l a) at_ = (⟨self, n, [], [], []⟩, [], 0) := by
  unfold tickM
  rw [if_pos (oneD_v hs ht hst hl ha), if_pos hn]
  have e : tickS (oneD self n t l a) at_ (oneD self n t l a).srch.length = ⟨n, [], []⟩ := by
    show tickStep self [] at_ ⟨n, [], []⟩ ⟨t, l, a⟩ = _
    unfold tickStep
    rw [if_neg (show ¬ at_ < (⟨t, l, a⟩ : Dsc).again from by show ¬ at_ < a; omega), if_pos (.inl h1)]
  rw [e]; rfl
end
theorem tick_nil {self n at_ : Int} (hs : self ≠ 0) (hn : isT at_) : tickM ⟨self, n, [], [], []⟩ at_ = (⟨self, n, [], [], []⟩, [], 0) := by
  unfold tickM
  rw [if_pos (startV hs), if_pos hn]; rfl
/-! ### One path -/
def oneP (self : Int) (p : Pth) : Rea := ⟨self, 0, [p], [], []⟩
theorem oneP_v {self : Int} {p : Pth} (hs : self ≠ 0) (hp : pathOK self p = true) : validX (oneP self p) = true :=
  validX_iff.2 ⟨hs, okI_one (by omega) hp, okI_nil, okI_nil⟩
theorem oneP_ok {self : Int} {p : Pth} (h0 : 0 ≤ p.to) : ReaOK (oneP self p) := ⟨fun x h => by rw [List.mem_singleton.1 h]; exact h0, fun x h => (by cases h), fun x h => (by cases h), by simp [oneP], by simp [oneP], by simp [oneP]⟩
/-- A path to 9. -/
def p9 (nb q m : Int) (b : Bool) (u : Int) : Pth := ⟨9, nb, ⟨q, m⟩, b, u⟩
theorem p9_ok {nb q m u : Int} {b : Bool} (h : nb ≠ 0) (hm : 0 ≤ m ∧ m < 65535) (hu : isT u) : pathOK 1 (p9 nb q m b u) = true :=
  pathOK_iff.2 ⟨⟨by show (9 : Int) ≠ 0; omega, by show (9 : Int) ≠ 1; omega⟩, h, by show okM m = true; simp [okM]; omega, by show m ≠ 65535; omega, hu.1, hu.2⟩
theorem f9 (nb q m : Int) (b : Bool) (u : Int) : fndP [p9 nb q m b u] 9 = true ∧ atP [p9 nb q m b u] 9 = 0 := fndP_one (p9 nb q m b u)
theorem cur9 {nb q m u now : Int} {b : Bool} (h : now < u) : curP [p9 nb q m b u] now 9 = true := by
  unfold curP
  rw [(f9 nb q m b u).1, (f9 nb q m b u).2]
  show (true && decide (now < u)) = true
  simp [h]
theorem usb9 {nb q m u now : Int} {b : Bool} (h : now < u) : usbP [p9 nb q m b u] now 9 = !b := by
  unfold usbP
  rw [cur9 h, (f9 nb q m b u).2]; rfl
theorem next9 {nb q m u now : Int} {b : Bool} (hb : nb ≠ 0) (hm : 0 ≤ m ∧ m < 65535) (hu : isT u) (hn : isT now) (h : now < u) : nextM (oneP 1 (p9 nb q m b u)) now 9 = if b = true then (0, 15) else (nb, 0) := by
  unfold nextM
  rw [if_pos ⟨oneP_v (by omega) (p9_ok hb hm hu), by omega, by show (9 : Int) ≠ 1; omega⟩, if_pos hn]
  show (if usbP [p9 nb q m b u] now 9 = true then _ else _) = _
  rw [usb9 h]
  cases b
  · rw [if_pos (show (!false) = true from rfl), if_neg (show ¬ false = true by simp)]
    show ((gt [p9 nb q m false u] (atP [p9 nb q m false u] 9)).nx, (0 : Int)) = _
    rw [(f9 nb q m false u).2]; rfl
  · rw [if_neg (show ¬ (!true) = true by simp), if_pos (show true = true from rfl)]
/-- The reply, and the error. -/
def rp9 (q m : Int) : Msg := ⟨2, 1, 9, q, 0, false, m, 5⟩
def er9 (q : Int) : Msg := ⟨3, 0, 9, q, 0, false, 0, 32⟩
theorem rp9_v {q m : Int} (h : 0 ≤ m ∧ m ≤ 999) : vMsg (rp9 q m) = true := vMsg_iff.2 ⟨by show (9 : Int) ≠ 0; omega, by show okM m = true; simp [okM]; omega, by show (1 : Int) ≤ 5 ∧ (5 : Int) ≤ 32; omega, .inr rfl, .inr (.inl ⟨rfl, by show (1 : Int) ≠ 0; omega, rfl⟩)⟩
theorem er9_v {q : Int} : vMsg (er9 q) = true := by simp [vMsg, er9, okM]
theorem add9 {m c : Int} (h : 0 ≤ m ∧ m ≤ 999) (hc : 1 ≤ c ∧ c ≤ 256) : addC m c = m + c := by
  unfold addC
  rw [if_pos ⟨by simp [okM]; omega, by simp [okM]; omega⟩]; omega
section
theorem lat9 {now : Int} (hn : 0 ≤ now ∧ now ≤ 999) : lat now 20 = now + 20 := by unfold lat; omega
variable {q m now : Int} (h : 0 ≤ m ∧ m ≤ 999) (hn : 0 ≤ now ∧ now ≤ 999)
include h hn
theorem hear9_new : hearM (startM 1) now 2 256 (rp9 q m) = (oneP 1 (p9 2 q (m + 256) false (now + 20)), [], 0) := by
  have ha := add9 (m := m) (c := 256) h (by omega)
  unfold hearM
  rw [if_pos ⟨startV (by omega), rp9_v h, by omega, by show (2 : Int) ≠ 1; omega⟩, if_pos ⟨⟨by omega, by omega⟩, by omega, by omega⟩, if_neg (by show (2 : Int) ≠ 3; omega)]
  rw [show addC (rp9 q m).cost 256 = m + 256 from ha, if_neg (by omega), if_neg (by show (2 : Int) ≠ 1; omega)]
  have ho : offM (startM 1) now 9 2 ⟨q, m + 256⟩ = (oneP 1 (p9 2 q (m + 256) false (now + 20)), true) := by
    unfold offM
    rw [if_neg (by show ¬ ((9 : Int) = 1 ∨ m + 256 = 65535); omega), if_neg (by rintro ⟨g, _⟩; cases g), if_neg (by rintro ⟨_, g⟩; simp [startM] at g)]
    unfold offX
    rw [lat9 hn]; rfl
  show ((hRep (startM 1) now 2 ⟨q, m + 256⟩ (rp9 q m)).1, (hRep (startM 1) now 2 ⟨q, m + 256⟩ (rp9 q m)).2, (0 : Int)) = _
  rw [show hRep (startM 1) now 2 ⟨q, m + 256⟩ (rp9 q m) = (oneP 1 (p9 2 q (m + 256) false (now + 20)), []) from ?_]
  unfold hRep
  simp only [show offM (startM 1) now (rp9 q m).to 2 ⟨q, m + 256⟩ = _ from ho]
  rfl
/-- A reply at a broken path: not a newer one. -/
theorem hear9_old {q2 c : Int} (hq : newer q q2 = false ∧ q ≠ q2) (hc : 0 ≤ c ∧ c < 65535) : hearM (oneP 1 (p9 2 q2 c true (now + 20))) now 3 1 (rp9 q m) = (oneP 1 (p9 2 q2 c true (now + 20)), [], 0) := by
  have ha := add9 (m := m) (c := 1) h (by omega)
  have hv := oneP_v (self := 1) (by omega) (p9_ok (nb := 2) (q := q2) (b := true) (by omega) hc (show isT (now + 20) by omega))
  unfold hearM
  rw [if_pos ⟨hv, rp9_v h, by omega, by show (3 : Int) ≠ 1; omega⟩, if_pos ⟨⟨by omega, by omega⟩, by omega, by omega⟩, if_neg (by show (2 : Int) ≠ 3; omega)]
  rw [show addC (rp9 q m).cost 1 = m + 1 from ha, if_neg (by omega), if_neg (by show (2 : Int) ≠ 1; omega)]
  have hcmp : cmpD ⟨q, m + 1⟩ ⟨q2, c⟩ ≠ -1 := by
    rw [Ne, cmpD_lt]
    rintro ⟨_, g | g⟩
    · rw [show newer q q2 = false from hq.1] at g; cases g
    · exact hq.2 g.1
  have ho : offM (oneP 1 (p9 2 q2 c true (now + 20))) now 9 3 ⟨q, m + 1⟩ = (oneP 1 (p9 2 q2 c true (now + 20)), false) := by
    unfold offM
    rw [if_neg (by show ¬ ((9 : Int) = 1 ∨ m + 1 = 65535); omega), if_pos]
    show curP [p9 2 q2 c true (now + 20)] now 9 = true ∧ cmpD ⟨q, m + 1⟩ (gt [p9 2 q2 c true (now + 20)] (atP [p9 2 q2 c true (now + 20)] 9)).own ≠ -1 ∧ ¬ ((gt [p9 2 q2 c true (now + 20)] (atP [p9 2 q2 c true (now + 20)] 9)).brk = false ∧ _)
    rw [(f9 _ _ _ _ _).2]
    exact ⟨cur9 (by omega), hcmp, fun g => by cases g.1⟩
  show ((hRep (oneP 1 (p9 2 q2 c true (now + 20))) now 3 ⟨q, m + 1⟩ (rp9 q m)).1, (hRep (oneP 1 (p9 2 q2 c true (now + 20))) now 3 ⟨q, m + 1⟩ (rp9 q m)).2, (0 : Int)) = _
  rw [show hRep (oneP 1 (p9 2 q2 c true (now + 20))) now 3 ⟨q, m + 1⟩ (rp9 q m) = (oneP 1 (p9 2 q2 c true (now + 20)), []) from ?_]
  unfold hRep
  simp only [show offM (oneP 1 (p9 2 q2 c true (now + 20))) now (rp9 q m).to 3 ⟨q, m + 1⟩ = _ from ho]
  rfl
theorem hear9_newer {q2 c : Int} (hq : newer q q2 = true) (hc : 0 ≤ c ∧ c < 65535) : hearM (oneP 1 (p9 2 q2 c true (now + 20))) now 3 1 (rp9 q m) = (oneP 1 (p9 3 q (m + 1) false (now + 20)), [], 0) := by
  have ha := add9 (m := m) (c := 1) h (by omega)
  have hv := oneP_v (self := 1) (by omega) (p9_ok (nb := 2) (q := q2) (b := true) (by omega) hc (show isT (now + 20) by omega))
  unfold hearM
  rw [if_pos ⟨hv, rp9_v h, by omega, by show (3 : Int) ≠ 1; omega⟩, if_pos ⟨⟨by omega, by omega⟩, by omega, by omega⟩, if_neg (by show (2 : Int) ≠ 3; omega)]
  rw [show addC (rp9 q m).cost 1 = m + 1 from ha, if_neg (by omega), if_neg (by show (2 : Int) ≠ 1; omega)]
  have hcmp : cmpD ⟨q, m + 1⟩ ⟨q2, c⟩ = -1 := by
    refine cmpD_lt.2 ⟨fun g => ?_, .inl hq⟩
    have : q = q2 := congrArg Dis.seq g
    rw [this, newer_self] at hq
    cases hq
  have ho : offM (oneP 1 (p9 2 q2 c true (now + 20))) now 9 3 ⟨q, m + 1⟩ = (oneP 1 (p9 3 q (m + 1) false (now + 20)), true) := by
    unfold offM
    rw [if_neg (by show ¬ ((9 : Int) = 1 ∨ m + 1 = 65535); omega), if_neg, if_neg]
    · show (({ oneP 1 (p9 2 q2 c true (now + 20)) with paths := putP [p9 2 q2 c true (now + 20)] (offX now 9 3 ⟨q, m + 1⟩) } : Rea), true) = _
      unfold putP
      rw [show (offX now 9 3 ⟨q, m + 1⟩).to = 9 from rfl, if_pos (f9 _ _ _ _ _).1, (f9 _ _ _ _ _).2]
      unfold offX
      rw [lat9 hn]; rfl
    · rintro ⟨g, _⟩
      rw [show fndP (oneP 1 (p9 2 q2 c true (now + 20))).paths 9 = true from (f9 _ _ _ _ _).1] at g; cases g
    · show ¬ (_ ∧ cmpD ⟨q, m + 1⟩ (gt [p9 2 q2 c true (now + 20)] (atP [p9 2 q2 c true (now + 20)] 9)).own ≠ -1 ∧ _)
      rw [(f9 _ _ _ _ _).2]
      exact fun g => g.2.1 hcmp
  show ((hRep (oneP 1 (p9 2 q2 c true (now + 20))) now 3 ⟨q, m + 1⟩ (rp9 q m)).1, (hRep (oneP 1 (p9 2 q2 c true (now + 20))) now 3 ⟨q, m + 1⟩ (rp9 q m)).2, (0 : Int)) = _
  rw [show hRep (oneP 1 (p9 2 q2 c true (now + 20))) now 3 ⟨q, m + 1⟩ (rp9 q m) = (oneP 1 (p9 3 q (m + 1) false (now + 20)), []) from ?_]
  unfold hRep
  simp only [show offM (oneP 1 (p9 2 q2 c true (now + 20))) now (rp9 q m).to 3 ⟨q, m + 1⟩ = _ from ho]
  rfl
end
theorem lost9 {q c now : Int} (hn : 0 ≤ now ∧ now ≤ 999) (hc : 0 ≤ c ∧ c < 65535) : lostM (oneP 1 (p9 2 q c false (now + 20))) now 2 = (oneP 1 (p9 2 (w16 (q + 1)) c true (now + 20)), [⟨0, er9 (w16 (q + 1))⟩], 0) := by
  have hv := oneP_v (self := 1) (by omega) (p9_ok (nb := 2) (q := q) (b := false) (by omega) hc (show isT (now + 20) by omega))
  have hh : hitP now 2 (p9 2 q c false (now + 20)) = true := by
    show (decide (now < now + 20) && (!false && (2 : Int) == 2)) = true
    rw [decide_eq_true (by omega)]; rfl
  unfold lostM
  rw [if_pos ⟨hv, by omega⟩, if_pos ⟨by omega, by omega⟩]
  show (({ oneP 1 (p9 2 q c false (now + 20)) with paths := [lostP now 2 (p9 2 q c false (now + 20))] } : Rea), ([p9 2 q c false (now + 20)].filter (hitP now 2)).map lostS, (0 : Int)) = _
  rw [List.filter_cons_of_pos hh]
  unfold lostP
  rw [if_pos hh]; rfl
theorem err9 {q q2 c now : Int} (hn : 0 ≤ now ∧ now ≤ 999) (hc : 0 ≤ c ∧ c < 65535) (hq : newer q2 q = true) : hearM (oneP 1 (p9 2 q c false (now + 20))) now 2 256 (er9 q2) = (oneP 1 (p9 2 q2 c true (now + 20)), [⟨0, ⟨3, 0, 9, q2, 0, false, 0, 31⟩⟩], 0) := by
  have hv := oneP_v (self := 1) (by omega) (p9_ok (nb := 2) (q := q) (b := false) (by omega) hc (show isT (now + 20) by omega))
  unfold hearM
  rw [if_pos ⟨hv, er9_v, by omega, by show (2 : Int) ≠ 1; omega⟩, if_pos ⟨⟨by omega, by omega⟩, by omega, by omega⟩, if_pos (show (er9 q2).kind = 3 from rfl)]
  have e : hErr (oneP 1 (p9 2 q c false (now + 20))) now 2 (er9 q2) = (oneP 1 (p9 2 q2 c true (now + 20)), [⟨0, ⟨3, 0, 9, q2, 0, false, 0, 31⟩⟩]) := by
    unfold hErr
    show (if usbP [p9 2 q c false (now + 20)] now 9 = false ∨ (gt [p9 2 q c false (now + 20)] (atP [p9 2 q c false (now + 20)] 9)).nx ≠ 2 then _ else (if q2 ≠ (gt [p9 2 q c false (now + 20)] (atP [p9 2 q c false (now + 20)] 9)).own.seq ∧ newer q2 (gt [p9 2 q c false (now + 20)] (atP [p9 2 q c false (now + 20)] 9)).own.seq = false then _ else _) : Rea × List Snd) = _
    rw [usb9 (by omega), (f9 _ _ _ _ _).2, if_neg (by rintro (g | g); exact absurd g (by simp); exact g rfl), if_neg (by rintro ⟨_, g⟩; rw [show newer q2 (gt [p9 2 q c false (now + 20)] 0).own.seq = newer q2 q from rfl, hq] at g; cases g)]
    show (({ oneP 1 (p9 2 q c false (now + 20)) with paths := [p9 2 q c false (now + 20)].set (atP [p9 2 q c false (now + 20)] 9) (brk1 (gt [p9 2 q c false (now + 20)] (atP [p9 2 q c false (now + 20)] 9)) q2) } : Rea), _) = _
    rw [(f9 _ _ _ _ _).2]; rfl
  rw [e]
end Go.Fw
