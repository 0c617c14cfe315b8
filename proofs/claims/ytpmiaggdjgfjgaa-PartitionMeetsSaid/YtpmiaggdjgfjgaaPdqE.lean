/- slices.Sort of numbers: the whole. -/
import Derived.Test.YtpmiaggdjgfjgaaPdqD
namespace Go.Fw
open Go.Proofs
set_option maxHeartbeats 32000000
set_option maxRecDepth 8000
/-- What is turned within [a, b) of l, and is as long as L. -/
def InR (L : Nat) (w u : List Int) (a b : Nat) : Prop := Rng w u a b ∧ u.length = L
def ArrL (w : List Int) (r : SV) (hp' : List OB) : Prop := r = .tup [] ∧ hp' = [.arr none 1 (lst u64 w)]
theorem ExS.mk {α : Type} {p : α → Prop} {Q : {x // p x} → Prop} (v : α) (h : ∀ hp : p v, Q ⟨v, hp⟩) (hp : p v) : ∃ x, Q x := ⟨⟨v, hp⟩, h hp⟩
theorem k_pdq : ∀ (n : Nat) (l : List Int) (a b : Nat) (lim : Int), b - a ≤ n → a ≤ b → b ≤ l.length → l.length ≤ 24 → 0 ≤ lim ∧ lim ≤ 1000 → Below l a b →
    ∃ r hp', (∃ w : List Int, (Rng l w a b ∧ Srt cI w a b) ∧ r = .tup [] ∧ hp' = [.arr none 1 (lst u64 w)]) ∧ ConK Try.prog 65 [.ov 1 0 0 l.length, int a, int b, int lim] [.arr none 1 (lst u64 l)] r hp' := by
  intro n
  induction n with
  | zero =>
    intro l a b lim hn hab hb hl hlim hbel
    have he : b = a := by omega
    subst he
    have hI := k_ordIns l b b (Nat.le_refl _) hb (by omega)
    refine spec_of_runRK ttok mixed (T0 := 10384593871817177683247510831234831) (ts := []) 134 rfl rfl rfl rfl (by simp) rfl ?_
    conv => whnf
    skip
    refine loop_keep ttok mixed (T0 := 10384593871817177683247510831234831) [0, 1, 2, 3] (ι := Unit) (fun _ => [(8, bool true), (9, bool true)]) (fun _ => [.arr none 1 (lst u64 l)]) (fun _ => 0) () ?_
    conv => whnf
    repeat' (first | ((first | (with_reducible apply Same.rfl) | (apply Same.bool; focus (with_reducible rfl))) <;> conv => whnf) | fail)
    rintro ⟨⟩
    conv => whnf
    repeat' (first | ((with_reducible apply GiveN.keep [0]); (conv => whnf)) | ((first | ((with_reducible apply Wr.i64); focus omega) | (refine CallKN.ex (hI) ?_; rintro _ _ ⟨u, hu, rfl, rfl⟩) | ((with_reducible apply Bif.dec) <;> intro h <;> (try simp only [lns] at h) <;> (try (exfalso; omega)))) <;> conv => whnf) | fail)
    (refine ⟨_, _, ⟨u, hu, rfl, rfl⟩, ?_⟩; conv => whnf); repeat' (first | with_reducible apply True.intro | ((first | (with_reducible apply Same.rfl) | (with_reducible apply Cut.l)) <;> conv => whnf) | fail)
  | succ n ih =>
    intro l a b lim hn hab hb hl hlim hbel
    refine spec_of_runRK ttok mixed (T0 := 10384593871817177683247510831234831) (ts := []) 134 rfl rfl rfl rfl (by simp) rfl ?_
    conv => whnf
    skip
    refine loop_keep ttok mixed (T0 := 10384593871817177683247510831234831) [0] (ι := {p : (Nat × Nat) × Int × Bool × Bool × List Int // Rng l p.2.2.2.2 a b ∧ Mid p.2.2.2.2 a p.1.1 p.1.2 b ∧ a ≤ p.1.1 ∧ p.1.1 ≤ p.1.2 ∧ p.1.2 ≤ b ∧ 0 ≤ p.2.1 ∧ p.2.1 ≤ 1000})
      (fun p => [(1, int (p.1.1.1 : Int)), (2, int (p.1.1.2 : Int)), (3, int p.1.2.1), (8, bool p.1.2.2.1), (9, bool p.1.2.2.2.1)]) (fun p => [.arr none 1 (lst u64 p.1.2.2.2.2)]) (fun p => p.1.1.2 - p.1.1.1) ⟨((a, b), lim, true, true, l), Rng.refl _ _ _, Mid.start _ _ _, by dsimp only; omega, by dsimp only; omega, by dsimp only; omega, hlim.1, hlim.2⟩ ?_
    conv => whnf
    repeat' (first | ((first | (with_reducible apply Same.rfl) | (apply Same.bool; focus (with_reducible rfl))) <;> conv => whnf) | fail)
    rintro ⟨⟨⟨a', b'⟩, lm, bal, par, w⟩, hr, hM, h1, h2, h3, h4, h5⟩
    dsimp only at hr hM h1 h2 h3 h4 h5 ⊢
    have hwl := hr.len
    have hB' : Below w a' b' := hM.below (hbel.rng hr) h1 h3
    have fin : ∀ u, Rng w u a' b' → Srt cI u a' b' → Rng l u a b ∧ Srt cI u a b := fun u g1 g2 => ⟨hr.trans (g1.up h1 h3), (hM.rng g1 h1 h3).done g2⟩
    by_cases h12 : b' ≤ a' + 12
    · have hI := k_ordIns w a' b' h2 (by omega) (by omega)
      rw [hwl] at hI
      conv => whnf
      repeat' (first | ((with_reducible apply GiveN.keep [0]); (conv => whnf)) | ((first | ((with_reducible apply Wr.i64); focus omega) | (refine CallKN.ex (hI) ?_; rintro _ _ ⟨u, ⟨u1, u2⟩, rfl, rfl⟩) | ((with_reducible apply Bif.dec) <;> intro h <;> (try simp only [lns] at h) <;> (try (exfalso; omega)))) <;> conv => whnf) | fail)
      (refine ⟨_, _, ⟨u, fin u u1 u2, rfl, rfl⟩, ?_⟩; conv => whnf); repeat' (first | with_reducible apply True.intro | ((first | (with_reducible apply Same.rfl) | (with_reducible apply Cut.l)) <;> conv => whnf) | fail)
    by_cases hl0 : lm = 0
    · subst hl0
      have hI := k_heap w a' b' (by omega) (by omega) (by omega)
      rw [hwl] at hI
      conv => whnf
      repeat' (first | ((with_reducible apply GiveN.keep [0]); (conv => whnf)) | ((first | ((with_reducible apply Wr.i64); focus omega) | (refine CallKN.ex (hI) ?_; rintro _ _ ⟨u, ⟨u1, u2⟩, rfl, rfl⟩) | ((with_reducible first | apply Bif.dec | apply Bif.beq) <;> intro h <;> (try simp only [lns] at h) <;> (try (exfalso; omega)))) <;> conv => whnf) | fail)
      (refine ⟨_, _, ⟨u, fin u u1 u2, rfl, rfl⟩, ?_⟩; conv => whnf); repeat' (first | with_reducible apply True.intro | ((first | (with_reducible apply Same.rfl) | (with_reducible apply Cut.l)) <;> conv => whnf) | fail)
    have kB : ∀ u, InR l.length w u a' b' → ∃ r hp', (∃ u', InR l.length w u' a' b' ∧ ArrL u' r hp') ∧ ConK Try.prog 84 [.ov 1 0 0 l.length, int a', int b'] [.arr none 1 (lst u64 u)] r hp' := fun u hu => by
      obtain ⟨r, hp', ⟨u', g1, g2, g3⟩, hc⟩ := k_break u a' b' (by omega) (by omega) (by have := hu.2; omega) (by have := hu.2; omega)
      rw [hu.2] at hc
      exact ⟨r, hp', ⟨u', ⟨hu.1.trans g1, g1.len.trans hu.2⟩, g2, g3⟩, hc⟩
    have kV : ∀ u, InR l.length w u a' b' → ∃ r hp', (∃ u', InR l.length w u' a' b' ∧ ArrL u' r hp') ∧ ConK Try.prog 86 [.ov 1 0 0 l.length, int a', int b'] [.arr none 1 (lst u64 u)] r hp' := fun u hu => by
      obtain ⟨r, hp', ⟨u', g1, g2, g3⟩, hc⟩ := k_revRange u a' b' (by omega) (by have := hu.2; omega) (by have := hu.2; omega)
      rw [hu.2] at hc
      exact ⟨r, hp', ⟨u', ⟨hu.1.trans g1, g1.len.trans hu.2⟩, g2, g3⟩, hc⟩
    have kE : ∀ u (pv : Nat), InR l.length w u a' b' → a' ≤ pv ∧ pv < b' → 0 < a' → ¬ gt u ((a' : Int) - 1).toNat < gt u pv → ∃ r hp', (∃ (u' : List Int) (m : Nat), (InR l.length w u' a' b' ∧ a' < m ∧ m ≤ b' ∧ Mid u' a m b' b) ∧ r = int m ∧ hp' = [.arr none 1 (lst u64 u')]) ∧ ConK Try.prog 88 [.ov 1 0 0 l.length, int a', int b', int pv] [.arr none 1 (lst u64 u)] r hp' := fun u pv hu hp h0 hle => by
      obtain ⟨r, hp', ⟨u', m, ⟨g1, g2, g3, g4⟩, g5, g6⟩, hc⟩ := k_partEq u a' b' pv (by omega) hp (by have := hu.2; omega) (by have := hu.2; omega) (fun x x1 x2 => by have := hB'.rng hu.1 h0 x x1 x2; rw [show ((a' : Int) - 1).toNat = a' - 1 by omega] at hle; omega)
      rw [hu.2] at hc
      exact ⟨r, hp', ⟨u', m, ⟨⟨hu.1.trans g1, g1.len.trans hu.2⟩, g2, g3, (hM.rng (hu.1.trans g1) h1 h3).eq g4⟩, g5, g6⟩, hc⟩
    have kP : ∀ u (pv : Nat), InR l.length w u a' b' → a' ≤ pv ∧ pv < b' → ∃ r hp', (∃ (u' : List Int) (m : Nat) (x : Bool), (InR l.length w u' a' b' ∧ Part u' a' b' m ∧ a' ≤ m ∧ m < b') ∧ r = .tup [int m, bool x] ∧ hp' = [.arr none 1 (lst u64 u')]) ∧ ConK Try.prog 89 [.ov 1 0 0 l.length, int a', int b', int pv] [.arr none 1 (lst u64 u)] r hp' := fun u pv hu hp => by
      obtain ⟨r, hp', ⟨u', m, x, ⟨g1, g2⟩, g5, g6⟩, hc⟩ := k_part u a' b' pv (by omega) hp (by have := hu.2; omega) (by have := hu.2; omega)
      rw [hu.2] at hc
      exact ⟨r, hp', ⟨u', m, x, ⟨⟨hu.1.trans g1, g1.len.trans hu.2⟩, g2, g2.at_.1, g2.at_.2⟩, g5, g6⟩, hc⟩
    have kL : ∀ u (m : Nat) (k : Int), InR l.length w u a' b' → Part u a' b' m → 0 ≤ k ∧ k ≤ 1000 → ∃ r hp', (∃ (u' : List Int), (InR l.length w u' a' b' ∧ Mid u' a (m + 1) b' b) ∧ r = .tup [] ∧ hp' = [.arr none 1 (lst u64 u')]) ∧ ConK Try.prog 65 [.ov 1 0 0 l.length, int a', int m, int k] [.arr none 1 (lst u64 u)] r hp' := fun u m k hu hp hk => by
      have hm := hp.at_
      have hul := hu.2
      obtain ⟨r, hp', ⟨u', ⟨g1, g2⟩, g5, g6⟩, hc⟩ := ih u a' m k (by omega) hm.1 (by omega) (by omega) hk (fun h0 x x1 x2 => hB'.rng hu.1 h0 x x1 (by omega))
      rw [hu.2] at hc
      exact ⟨r, hp', ⟨u', ⟨⟨hu.1.trans (g1.up (Nat.le_refl _) (by omega)), g1.len.trans hu.2⟩, (hM.rng hu.1 h1 h3).left hp g1 g2 h1 h3⟩, g5, g6⟩, hc⟩
    have kR : ∀ u (m : Nat) (k : Int), InR l.length w u a' b' → Part u a' b' m → 0 ≤ k ∧ k ≤ 1000 → ∃ r hp', (∃ (u' : List Int), (InR l.length w u' a' b' ∧ Mid u' a a' m b) ∧ r = .tup [] ∧ hp' = [.arr none 1 (lst u64 u')]) ∧ ConK Try.prog 65 [.ov 1 0 0 l.length, int ((m : Int) + 1), int b', int k] [.arr none 1 (lst u64 u)] r hp' := fun u m k hu hp hk => by
      have hm := hp.at_
      have hul := hu.2
      obtain ⟨r, hp', ⟨u', ⟨g1, g2⟩, g5, g6⟩, hc⟩ := ih u (m + 1) b' k (by omega) (by omega) (by omega) (by omega) hk (fun h0 x x1 x2 => hp.hi x (by omega) x2)
      rw [hu.2] at hc
      exact ⟨r, hp', ⟨u', ⟨⟨hu.1.trans (g1.up (by omega) (Nat.le_refl _)), g1.len.trans hu.2⟩, (hM.rng hu.1 h1 h3).right hp g1 g2 h1 h3⟩, g5, g6⟩, hc⟩
    have kC : ∀ u, InR l.length w u a' b' → _ := fun u hu => k_choose u a' b' (by omega) (by omega) (by have := hu.2; omega) (by have := hu.2; omega)
    have kS : ∀ u, InR l.length w u a' b' → _ := fun u hu => k_partIns u a' b' (by omega) (by omega) (by have := hu.2; omega) (by have := hu.2; omega)
    have tk : ∀ u, InR l.length w u a' b' → List.take l.length (List.drop 0 (lst u64 u)) = lst u64 u := fun u hu => by
      rw [List.drop_zero, ← hu.2, ← lst_len (f := u64) u, List.take_length]
    have nd : ∀ u, InR l.length w u a' b' → 0 + l.length ≤ (lst u64 u).length := fun u hu => by rw [lst_len, hu.2]; omega
    have hR0 : InR l.length w w a' b' := ⟨Rng.refl _ _ _, hwl⟩
    have wrev : ∀ pv : Nat, a' ≤ pv → pv < b' → IntKind.wrap .i64 ((b' : Int) - 1 - ((pv : Int) - (a' : Int))) = ((b' - 1 - (pv - a') : Nat) : Int) := fun pv p1 p2 => by
      simp [IntKind.wrap, IntKind.bits, IntKind.signed]; omega
    have hq8 : IntKind.wrap .i64 (((b' : Int) - (a' : Int)).tdiv 8) = (((b' - a') / 8 : Nat) : Int) := by
      rw [Int.tdiv_eq_ediv_of_nonneg (by omega)]
      simp [IntKind.wrap, IntKind.bits, IntKind.signed]; omega
    have ge : ∀ u, InR l.length w u a' b' → u.length = l.length := fun u hu => hu.2
    conv => whnf
    repeat' (first | ((with_reducible apply Elem.lst); (focus (have := ge _ ‹InR l.length w _ a' b'›; omega)); (conv => whnf)) | ((with_reducible apply Wr.eq hq8); (conv => whnf)) | ((with_reducible apply Wr.eq (wrev pv p1 p2)); (conv => whnf)) | ((with_reducible apply Nm.mk (tk _ (by assumption))); (conv => whnf)) | ((with_reducible apply Need.mk); (focus (exact nd _ (by assumption))); (conv => whnf)) | ((with_reducible apply GiveN.keep [0]); (conv => whnf); (refine CallKN.ex (kB _ (by assumption)) ?_); (rintro _ _ ⟨u1, hu1, rfl, rfl⟩); (conv => whnf)) | ((with_reducible apply GiveN.keep [0]); (conv => whnf); (refine CallKN.ex (kV _ (by assumption)) ?_); (rintro _ _ ⟨u2, hu2, rfl, rfl⟩); (conv => whnf)) | ((with_reducible apply GiveN.keep [0]); (conv => whnf); (refine CallKN.ex (kE _ _ (by assumption) (by omega) (by omega) (by assumption)) ?_); (rintro _ _ ⟨u3, me, ⟨hu3, e1, e2, e3⟩, rfl, rfl⟩); (conv => whnf)) | ((with_reducible apply GiveN.keep [0]); (conv => whnf); (refine CallKN.ex (kP _ _ (by assumption) (by omega)) ?_); (rintro _ _ ⟨u4, m, x4, ⟨hu4, hP, m1, m2⟩, rfl, rfl⟩); (conv => whnf)) | ((with_reducible apply GiveN.keep [0]); (conv => whnf); (refine CallKN.ex (kL _ _ _ (by assumption) (by assumption) (by omega)) ?_); (rintro _ _ ⟨u5, ⟨hu5, hM5⟩, rfl, rfl⟩); (conv => whnf)) | ((with_reducible apply GiveN.keep [0]); (conv => whnf); (refine CallKN.ex (kR _ _ _ (by assumption) (by assumption) (by omega)) ?_); (rintro _ _ ⟨u6, ⟨hu6, hM6⟩, rfl, rfl⟩); (conv => whnf)) | ((first | ((with_reducible apply Nm.mk); focus ((try simp only [lns]); exact rfl)) | ((with_reducible apply Wr.i64); focus omega) | ((with_reducible apply Need.mk); focus first | omega | exact CleanP.nil rfl | kernel_rfl) | (refine CallN.ex (kC _ (by assumption)) ?_; rintro _ _ ⟨pv, hint, rfl, rfl, p1, p2⟩) | (refine CallN.ex (kS _ (by assumption)) ?_; rintro _ _ ⟨xs, rfl, rfl, hx⟩) | (apply CallN.mk (k_cLess _ _)) | (with_reducible first | apply Bif.T | apply Bif.F) | ((with_reducible first | apply Bif.dec | apply Bif.beq) <;> intro h <;> (try simp only [lns] at h) <;> (try (exfalso; omega))) | (with_reducible apply Bif.not) | ((with_reducible apply Bif.mk) <;> intro h) | (with_reducible apply GiveN.lend)) <;> conv => whnf) | fail)
    all_goals (try (refine ⟨_, _, ⟨_, fin _ (And.left (by assumption)) (hx h), rfl, rfl⟩, ?_⟩; (conv => whnf); repeat' (first | with_reducible apply True.intro | ((first | (with_reducible apply Same.rfl) | (with_reducible apply Cut.l)) <;> conv => whnf) | fail)))
    all_goals (first | apply ExS.mk ((me, b'), _, _, _, u3) | apply ExS.mk ((m + 1, b'), _, _, _, u5) | apply ExS.mk ((a', m), _, _, _, u6))
    any_goals (intro _; (try dsimp only); (conv => whnf); repeat' (first | with_reducible apply True.intro | ((first | ((with_reducible apply Need.mk); focus omega) | (with_reducible apply Same.rfl) | (apply Same.int; focus rfl) | (apply Same.bool; focus (with_reducible rfl)) | (with_reducible apply Turn.l)) <;> conv => whnf) | fail))
    all_goals (first
      | exact ⟨hr.trans (hu3.1.up h1 h3), e3, by dsimp only; omega, by dsimp only; omega, by dsimp only; omega, by dsimp only; omega, by dsimp only; omega⟩
      | exact ⟨hr.trans (hu5.1.up h1 h3), hM5, by dsimp only; omega, by dsimp only; omega, by dsimp only; omega, by dsimp only; omega, by dsimp only; omega⟩
      | exact ⟨hr.trans (hu6.1.up h1 h3), hM6, by dsimp only; omega, by dsimp only; omega, by dsimp only; omega, by dsimp only; omega, by dsimp only; omega⟩)
theorem k_Sort (l : List Int) (hl : l.length ≤ 24) :
    ∃ r hp', (∃ w : List Int, (Rng l w 0 l.length ∧ Srt cI w 0 l.length) ∧ r = .tup [] ∧ hp' = [.arr none 1 (lst u64 w)]) ∧ ConK Try.prog 44 [.ov 1 0 0 l.length] [.arr none 1 (lst u64 l)] r hp' := by
  have hL := k_Len l.length hl
  have hb : 0 ≤ lenN l.length ∧ lenN l.length ≤ 5 := by unfold lenN; omega
  have hP := k_pdq l.length l 0 l.length (lenN l.length) (by omega) (by omega) (Nat.le_refl _) hl ⟨hb.1, by omega⟩ (fun h => absurd h (by omega))
  refine spec_of_runRK ttok mixed (T0 := 5) (ts := []) 11 rfl rfl rfl rfl (by simp) rfl ?_
  conv => whnf
  repeat' (first | ((with_reducible apply GiveN.keep [0]); (conv => whnf); (refine CallKN.ex hP ?_); (rintro _ _ ⟨w, hw, rfl, rfl⟩); (conv => whnf)) | ((first | ((with_reducible apply Wr.u64); focus omega) | (apply CallN.mk (hL))) <;> conv => whnf) | fail)
  (refine ⟨_, _, ⟨w, hw, rfl, rfl⟩, ?_⟩; conv => whnf); repeat' (first | with_reducible apply True.intro | ((first | (with_reducible apply Same.rfl) | (with_reducible apply Cut.l)) <;> conv => whnf) | fail)
end Go.Fw
