/- ReactiveFinds: the walk. -/
import Derived.Test.YtmblmljcjmmlgaaFinE
namespace Go.Fw
open Go.Proofs
set_option maxHeartbeats 8000000
set_option maxRecDepth 8000
namespace Fnd
theorem k_Delete_Air (rows : List SV) (i : Nat) (hi : i < rows.length) (hl : rows.length ≤ 1000000) : Con Try.prog 29 [.ov 10 0 0 rows.length, int i, int (i + 1)] [.arr none 10 rows] (.ov 10 0 0 (rows.length - 1)) [.arr none 10 (rows.take i ++ rows.drop (i + 1))] := by
  refine spec_of_run ttok mixed (T0 := 65735) (ts := [.tmp 6]) 33 rfl rfl rfl rfl (by simp) rfl ?_
  conv => whnf
  have e1 : ((i : Int) + 1).toNat = i + 1 := by omega
  repeat' (first | with_reducible apply True.intro | ((with_reducible apply Alt.r); (with_reducible apply Alt.l); conv => whnf) | ((with_reducible apply Cut.r); (apply Same.mk); (focus ((apply List.ext_getElem?; intro kk; simp only [List.getElem?_append, List.getElem?_take, List.getElem?_drop, List.getElem?_replicate, List.length_append, List.length_take, List.length_drop, List.length_replicate, List.length_cons, List.length_nil, List.getElem?_cons, List.getElem?_nil]; repeat' (split <;> try (exfalso; omega))) <;> first | rfl | (congr 1; omega) | (symm; apply List.getElem?_eq_none; omega) | (apply List.getElem?_eq_none; omega) | (congr 2; omega) | (simp; omega))); (conv => whnf)) | ((first | ((with_reducible apply Nm.mk); focus ((try simp only [lns, e1, Nat.min_self]); exact rfl)) | ((with_reducible apply Need.mk); focus first | omega | (simp only [lns, e1, Nat.min_self]; omega) | kernel_rfl) | ((with_reducible apply Bif.beq) <;> intro h <;> (try simp only [lns, e1, Nat.min_self] at h) <;> (try (exfalso; omega))) | (with_reducible apply Same.rfl) | ((with_reducible apply Same.mk); focus omega) | (with_reducible apply Sl3.l) | (with_reducible apply Frz.l)) <;> conv => whnf) | fail)
/-- The links that are drawn: of the nodes below i, and of i to those below j. -/
structure Lk (i j : Nat) (A : Nat → Nat → Bool) : Prop where
  sy : ∀ x y, A x y = A y x
  ir : ∀ x, A x x = false
  rg : ∀ x y, A x y = true → (x < i ∧ y < i) ∨ (x = i ∧ y < j) ∨ (y = i ∧ x < j)
def updL (A : Nat → Nat → Bool) (i j : Nat) (b : Bool) : Nat → Nat → Bool := fun x y => match (Nat.beq x i && Nat.beq y j) || (Nat.beq x j && Nat.beq y i) with | true => b | false => A x y
theorem updL_iff {A : Nat → Nat → Bool} {i j x y : Nat} {b : Bool} : updL A i j b x y = if (x = i ∧ y = j) ∨ (x = j ∧ y = i) then b else A x y := by
  unfold updL
  by_cases h : (x = i ∧ y = j) ∨ (x = j ∧ y = i)
  · rw [if_pos h]
    have : ((Nat.beq x i && Nat.beq y j) || (Nat.beq x j && Nat.beq y i)) = true := by simpa [Nat.beq_eq] using h
    rw [this]
  · rw [if_neg h]
    have : ((Nat.beq x i && Nat.beq y j) || (Nat.beq x j && Nat.beq y i)) = false := by
      cases e : ((Nat.beq x i && Nat.beq y j) || (Nat.beq x j && Nat.beq y i))
      · rfl
      · exact absurd (by simpa [Nat.beq_eq] using e) h
    rw [this]
theorem Lk.upd {i j : Nat} {A : Nat → Nat → Bool} (h : Lk i j A) (hj : j < i) (b : Bool) : Lk i (j + 1) (updL A i j b) := by
  refine ⟨fun x y => ?_, fun x => ?_, fun x y e => ?_⟩
  · rw [updL_iff, updL_iff, h.sy x y]
    by_cases g : (x = i ∧ y = j) ∨ (x = j ∧ y = i)
    · rw [if_pos g, if_pos (by omega)]
    · rw [if_neg g, if_neg (by omega)]
  · rw [updL_iff, if_neg (by omega)]; exact h.ir x
  · rw [updL_iff] at e
    split at e
    · omega
    · have := h.rg x y e; omega
theorem Lk.up {i : Nat} {A : Nat → Nat → Bool} (h : Lk i i A) : Lk (i + 1) 0 A := ⟨h.sy, h.ir, fun x y e => by have := h.rg x y e; omega⟩
theorem Lk.zero : Lk 0 0 (fun _ _ => false) := ⟨fun _ _ => rfl, fun _ => rfl, fun _ _ e => by cases e⟩
theorem Lk.gr {n : Nat} {A : Nat → Nat → Bool} (h : Lk n 0 A) (h5 : n ≤ 5) : Gr n A := ⟨h5, h.sy, fun x y e => by have := h.rg x y e; omega, h.ir⟩
structure NdI (n : Nat) where
  i : Nat
  A : Nat → Nat → Bool
  R : List Rea
  k : Int
  hi : i ≤ n
  lk : Lk i 0 A
  hR : R.length = i
  st : ∀ v, v < i → gt R v = startM ((v : Int) + 1)
  hk : 0 ≤ k
structure LnI (i : Nat) where
  j : Nat
  A : Nat → Nat → Bool
  k : Int
  hj : j ≤ i
  lk : Lk i j A
  hk : 0 ≤ k
/-- On the way along the next hops. -/
structure WkI (n T : Nat) (P : Gh) where
  v : Nat
  j : Nat
  hv : v < n
  hj : j ≤ n
  hp : v ≠ T → ∃ p, P v = some p ∧ j + below P (pc p) n + 1 ≤ n
/-- The messages are under way. -/
structure FlI (n T : Nat) (A : Nat → Nat → Bool) where
  s : Nat
  Q : Gh
  P : Gh
  F : List Fl
  R : List Rea
  k : Int
  inv : Inv A T Q P F
  ph : phi n Q F + s ≤ 3155
  hR : R.length = n
  st : ∀ v, v < n → gt R v = reaG T Q P v
  hk : 0 ≤ k
theorem wts_len : ∀ {F : List Fl}, (∀ f ∈ F, 1 ≤ wt f) → F.length ≤ wts F
  | [], _ => Nat.le_refl _
  | f :: F, h => by
    have h1 := wts_len (F := F) fun g hg => h g (List.mem_cons_of_mem _ hg)
    have h2 := h f List.mem_cons_self
    simp only [List.length_cons, wts]
    omega
theorem Inv.len_le {A : Nat → Nat → Bool} {n T : Nat} {Q P : Gh} {F : List Fl} (g : Gr n A) (hTn : T < n) (I : Inv A T Q P F) : F.length ≤ wts F :=
  wts_len fun f hf => wt_rep g hTn fun h => (I.p2 f hf h).1
theorem k_ReactiveFinds (t : List Int) (n0 : Int) : Con Try.prog 5 [.fs .no 1 (ints t), int n0] [] (bool true) [] := by
  have ht : (t.take 400).length ≤ 400 := by simp; omega
  generalize hT : t.take 400 = l at ht
  have hN := k_made_New t
  rw [hT] at hN
  have c1 := k_made_Mod n0 4 (by decide)
  have r1 := modV_range (v := n0) (n := 4) (by decide)
  obtain ⟨n, hn⟩ : ∃ n : Nat, 2 + modV n0 4 = (n : Int) := ⟨(2 + modV n0 4).toNat, by omega⟩
  have hn' : modV n0 4 = (n : Int) - 2 := by omega
  rw [hn'] at c1 r1
  have hw : IntKind.wrap .i64 (2 + ((n : Int) - 2)) = (n : Int) := by rw [show 2 + ((n : Int) - 2) = (n : Int) by omega, wrap64_id (by omega)]
  refine spec_of_run ttok mixed (T0 := 3618502788669422116150275644449620291425387979844456929257155231884976848883) (ts := [.tmp 4]) 261 rfl rfl rfl rfl (by simp) rfl ?_
  conv => whnf
  repeat' (first | ((apply Wr.eq hw); (conv => whnf)) | ((first | (apply CallN.mk (hN)) | (apply CallN.mk (c1)) | (with_reducible apply Frz.l)) <;> conv => whnf) | fail)
  have h5 : n ≤ 5 ∧ 2 ≤ n := by omega
  clear hw hn hn' r1 c1 hN
  refine LoopN.adoptF 1 5 (.agg [.ov 5 2 0 0, linkV fun _ _ => false]) rfl (by simp) (.cons .nil .rfl) ?_
  refine loop_keep ttok mixed (T0 := 3618502788669422116150275644449620291425387979844456929257155231884976848883) [] (ι := NdI n)
    (fun q => [(1, int (n : Int)), (5, .pb 0 []), (6, .pb 1 []), (7, int (q.i : Int))])
    (fun q => [.cells (tape l q.k), .cells (.agg [.ov 5 2 0 q.i, linkV q.A]), .arr none 5 (lst reaF q.R)]) (fun q => n - q.i)
    ⟨0, fun _ _ => false, [], 0, Nat.zero_le _, Lk.zero, rfl, fun v h => absurd h (Nat.not_lt_zero v), Int.le_refl 0⟩ ?_
  conv => whnf
  repeat' (first | ((first | (with_reducible apply Same.rfl) | (apply Same.int; focus rfl) | (apply Same.rfl) | (with_reducible apply Frz.l)) <;> conv => whnf) | fail)
  rintro ⟨i, A, R, kt, hi, lk, hR, st, hkt⟩
  dsimp only
  conv => whnf
  by_cases hin : i < n
  · have eS : lst reaF R ++ [reaF (startM ((i : Int) + 1))] = lst reaF (R ++ [startM ((i : Int) + 1)]) := lst_snoc R _
    have eR : (R ++ [startM ((i : Int) + 1)]).length = i + 1 := by simp [hR]
    have st2 : ∀ v, v < i + 1 → gt (R ++ [startM ((i : Int) + 1)]) v = startM ((v : Int) + 1) := fun v hv => by
      rw [gt_app]
      split
      · exact st v (by omega)
      · obtain rfl : v = i := by omega
        rw [hR, Nat.sub_self]; rfl
    repeat' (first | ((first | ((with_reducible apply Nm.mk); focus ((try simp only [lns]); exact rfl)) | ((with_reducible first | apply Wr.i64 | apply Wr.u64); focus omega) | ((with_reducible apply Need.mk); focus first | (simp only [lns]; omega) | kernel_rfl | (unfold roomOK; simp only [lns]; omega)) | (apply CallN.mk (k_xStart _)) | ((with_reducible apply Bif.dec) <;> intro h <;> (try simp only [lns] at h) <;> (try (exfalso; omega))) | (with_reducible apply Alt.l) | (with_reducible apply Frz.l)) <;> conv => whnf) | fail)
    refine loop_keep ttok mixed (T0 := 3618502788669422116150275644449620291425387979844456929257155231884976848883) [1, 7] (ι := LnI i)
      (fun q => [(5, .pb 0 []), (6, .pb 1 []), (8, int (q.j : Int))])
      (fun q => [.cells (tape l q.k), .cells (.agg [.ov 5 2 0 (i + 1), linkV q.A]), .arr none 5 (lst reaF (R ++ [startM ((i : Int) + 1)]))]) (fun q => i - q.j)
      ⟨0, A, kt, Nat.zero_le _, lk, hkt⟩ ?_
    conv => whnf
    repeat' (first | ((rw [hR]); (conv => whnf)) | ((apply Same.mk rfl); (conv => whnf)) | ((apply Same.mk eS); (conv => whnf)) | ((with_reducible apply Frz.l) <;> conv => whnf) | fail)
    clear eS
    generalize R ++ [startM ((i : Int) + 1)] = R2 at eR st2
    rintro ⟨j, A, kj, hj, lk, hkj⟩
    dsimp only
    conv => whnf
    by_cases hji : j < i
    · have h4 : (i = 1 ∧ j = 0) ∨ (i = 2 ∧ (j = 0 ∨ j = 1)) ∨ (i = 3 ∧ (j = 0 ∨ j = 1 ∨ j = 2)) ∨ (i = 4 ∧ (j = 0 ∨ j = 1 ∨ j = 2 ∨ j = 3)) := by omega
      repeat' (first | ((first | ((with_reducible apply Nm.mk); focus ((try simp only [lns]); exact rfl)) | ((with_reducible apply Wr.i64); focus omega) | ((with_reducible apply Need.mk); focus first | omega | kernel_rfl) | (refine CallN.ex (k_tape_Bool l _ 2 hkj ht (by decide)) ?_; rintro _ _ ⟨x, k1, rfl, rfl, g3⟩) | (refine CallN.ex (k_tape_Bool l _ 5 g3 ht (by decide)) ?_; rintro _ _ ⟨y, k2, rfl, rfl, g4⟩) | (with_reducible first | apply Bif.T | apply Bif.F) | ((with_reducible first | apply Bif.dec | apply Bif.beq) <;> intro h <;> (try simp only [lns] at h) <;> (try (exfalso; omega))) | ((with_reducible apply Bif.mk) <;> intro h) | (with_reducible apply Frz.l)) <;> conv => whnf) | fail)
      all_goals (
        rcases h4 with ⟨rfl, rfl⟩ | ⟨rfl, rfl | rfl⟩ | ⟨rfl, rfl | rfl | rfl⟩ | ⟨rfl, rfl | rfl | rfl | rfl⟩
        all_goals (
          repeat' (first | ((apply Elem.mk _ rfl); (conv => whnf)) | ((first | ((with_reducible apply Nm.mk); focus ((try simp only [lns]); exact rfl)) | ((with_reducible apply Wr.i64); focus omega) | ((with_reducible apply Need.mk); focus first | omega | kernel_rfl) | (with_reducible apply Frz.l)) <;> conv => whnf) | fail)
          first
            | ((refine ⟨⟨_, _, k1, hji, lk.upd hji true, g3⟩, ?_⟩; (try dsimp only); conv => whnf); repeat' (first | with_reducible apply True.intro | ((apply Same.mk rfl); (conv => whnf)) | ((first | ((with_reducible apply Need.mk); focus omega) | ((with_reducible apply Same.mk); focus omega) | (with_reducible apply Turn.l) | (with_reducible apply Frz.l)) <;> conv => whnf) | fail)
               done)
            | ((refine ⟨⟨_, _, k1, hji, lk.upd hji false, g3⟩, ?_⟩; (try dsimp only); conv => whnf); repeat' (first | with_reducible apply True.intro | ((apply Same.mk rfl); (conv => whnf)) | ((first | ((with_reducible apply Need.mk); focus omega) | (with_reducible apply Turn.l) | (with_reducible apply Frz.l)) <;> conv => whnf) | fail)
               done)
            | ((refine ⟨⟨_, _, k2, hji, lk.upd hji (!y), g4⟩, ?_⟩; (try dsimp only); conv => whnf); repeat' (first | with_reducible apply True.intro | ((apply Same.mk rfl); (conv => whnf)) | ((first | ((with_reducible apply Need.mk); focus omega) | (with_reducible apply Turn.l) | (with_reducible apply Frz.l)) <;> conv => whnf) | fail)
               done)))
    · obtain rfl : i = j := by omega
      repeat' (first | ((first | ((with_reducible apply Wr.i64); focus omega) | ((with_reducible apply Bif.dec) <;> intro h <;> (try simp only [lns] at h) <;> (try (exfalso; omega))) | (with_reducible apply Frz.l)) <;> conv => whnf) | fail)
      (refine ⟨⟨i + 1, A, R2, kj, hin, lk.up, eR, st2, hkj⟩, ?_⟩; (try dsimp only); conv => whnf); repeat' (first | with_reducible apply True.intro | ((first | ((with_reducible apply Need.mk); focus omega) | (with_reducible apply Same.rfl) | (apply Same.int; focus rfl) | (with_reducible apply Turn.l) | (with_reducible apply Frz.l)) <;> conv => whnf) | fail)
  · obtain rfl : n = i := by omega
    repeat' (first | ((first | ((with_reducible apply Nm.mk); focus ((try simp only [lns]); exact rfl)) | ((with_reducible first | apply Wr.i64 | apply Wr.u64); focus omega) | ((with_reducible apply Need.mk); focus omega) | ((with_reducible apply Elem.lst); focus omega) | (refine CallN.ex (k_tape_Next l _ ((n : Int) - 1) hkt ht (by omega)) ?_; rintro _ _ ⟨x, k1, rfl, rfl, g1, g2, g3⟩) | ((with_reducible apply Bif.dec) <;> intro h <;> (try simp only [lns] at h) <;> (try (exfalso; omega))) | (with_reducible apply Frz.l)) <;> conv => whnf) | fail)
    obtain ⟨T, hT⟩ : ∃ T : Nat, x = (T : Int) - 1 := ⟨(x + 1).toNat, by omega⟩
    subst hT
    have g := lk.gr h5.1
    have hT0 : T ≠ 0 := by omega
    have hTn : T < n := by omega
    have s0 : gt R 0 = startM 1 := st 0 (by omega)
    rw [show (1 : Int) + ((T : Int) - 1) = (T : Int) by omega, s0]
    have e0 : seekM (startM 1) 5 ((T : Int) + 1) = (reaG T (fun _ => none) (fun _ => none) 0, [⟨0, reqM T [0]⟩], 0) := seek_one (by omega) (by omega) (by omega) ⟨by omega, by omega⟩
    have cS := k_xSeek (startM 1) 5 ((T : Int) + 1) (reaOK_0 1 0) (by omega)
    rw [e0] at cS
    dsimp only [reaO, reaH, List.cons_append, List.nil_append] at cS
    have R0 : (R.set 0 (reaG T (fun _ => none) (fun _ => none) 0)).length = n := by rw [List.length_set]; exact hR
    have st0 : ∀ v, v < n → gt (R.set 0 (reaG T (fun _ => none) (fun _ => none) 0)) v = reaG T (fun _ => none) (fun _ => none) v := fun v hv => by
      rw [gt_set (by omega)]
      by_cases e : v = 0
      · rw [if_pos e, e]
      · rw [if_neg e, st v hv]
        unfold reaG srG
        rw [if_neg e, if_neg (fun g => e g.1)]
        rfl
    have eR : (lst reaF R).set 0 (reaF (reaG T (fun _ => none) (fun _ => none) 0)) = lst reaF (R.set 0 (reaG T (fun _ => none) (fun _ => none) 0)) := lst_set R 0 _
    have hsp := k_spread n 0 h5.1 (by omega) A (R.set 0 (reaG T (fun _ => none) (fun _ => none) 0)) R0 [⟨0, reqM T [0]⟩] (by simp)
    rw [← eR] at hsp
    repeat' (first | ((with_reducible apply GiveN.keep [2]); (conv => whnf); (apply CallKN.mk hsp); (conv => whnf)) | ((first | ((with_reducible apply Nm.mk); focus ((try simp only [lns]); exact rfl)) | ((with_reducible apply Need.mk); focus first | omega | (simp only [lns]; omega) | kernel_rfl) | ((with_reducible apply Elem.lst); focus omega) | (apply CallN.mk (cS)) | ((with_reducible apply Bif.bne) <;> intro h <;> (try simp only [lns] at h) <;> (try (exfalso; omega))) | (with_reducible apply Frz.l)) <;> conv => whnf) | fail)
    have eF : sprM A n 0 [⟨0, reqM T [0]⟩] = ((nbs A n 0).map fun j => (⟨j, false, [0]⟩ : Fl)).map (airOf T) := by
      rw [spr_all, List.map_map]; rfl
    have lF : (sprM A n 0 [⟨0, reqM T [0]⟩]).length = ((nbs A n 0).map fun j => (⟨j, false, [0]⟩ : Fl)).length := by rw [eF, List.length_map]
    have I0 := Inv.init g hT0
    have P0 := phi0 g
    have L0 := nbs_len (x := 0) g
    refine LoopN.turn [1, 10] [(15, int 0), (14, .ov 10 3 0 ((nbs A n 0).map fun j => (⟨j, false, [0]⟩ : Fl)).length), (5, .pb 0 []), (6, .pb 1 [])]
      [.cells (tape l k1), .cells (.agg [.ov 5 2 0 n, linkV A]), .arr none 5 (lst reaF (R.set 0 (reaG T (fun _ => none) (fun _ => none) 0))), .arr none 10 (lst airV (((nbs A n 0).map fun j => (⟨j, false, [0]⟩ : Fl)).map (airOf T)))] ?_
    conv => whnf
    repeat' (first | ((rw [lF]); (conv => whnf)) | ((rw [eF]); (conv => whnf)) | ((apply Same.mk eR); (conv => whnf)) | ((first | (with_reducible apply Same.rfl) | (apply Same.int; focus rfl) | (with_reducible apply Cut.l) | (with_reducible apply Frz.l)) <;> conv => whnf) | fail)
    refine loop_keep ttok mixed (T0 := 3618502788669422116150275644449620291425387979844456929257155231884976848883) [1, 10] (ι := FlI n T A)
      (fun q => [(15, int (q.s : Int)), (14, .ov 10 3 0 q.F.length), (5, .pb 0 []), (6, .pb 1 [])])
      (fun q => [.cells (tape l q.k), .cells (.agg [.ov 5 2 0 n, linkV A]), .arr none 5 (lst reaF q.R), .arr none 10 (lst airV (q.F.map (airOf T)))]) (fun q => phi n q.Q q.F)
      ⟨0, fun _ => none, fun _ => none, (nbs A n 0).map fun j => ⟨j, false, [0]⟩, R.set 0 (reaG T (fun _ => none) (fun _ => none) 0), k1, I0, by omega, R0, st0, g3⟩ ?_
    conv => whnf
    repeat' (first | ((first | (with_reducible apply Same.rfl) | (apply Same.int; focus rfl) | (with_reducible apply Frz.l)) <;> conv => whnf) | fail)
    clear cS hsp eR R0 st0 s0 e0 eF lF I0 P0 L0
    rintro ⟨s, Q, P, F, R2, kt, I, ph, hR2, st2, hkt⟩
    have hFl := I.len_le g hTn
    have hph : wts F ≤ phi n Q F := by unfold phi; omega
    dsimp only
    conv => whnf
    by_cases hF : F = []
    · subst hF
      have hcn := k_connected n T hTn A g R2 hR2
      have cN0 := k_xNext (reaG T Q P 0) 7 ((T : Int) + 1) (I.hok g hT0 hTn (x := 0) (by omega)).rv.ok
      have hst0 : (lst reaF R2)[0]? = some (reaF (reaG T Q P 0)) := by rw [lst_get (by omega), st2 0 (by omega)]
      rw [nextG g hT0 hTn I (v := 0) (by omega) (by omega)] at cN0
      repeat' (first | ((apply Elem.mk _ hst0); (conv => whnf)) | ((with_reducible apply GiveN.keep []); (conv => whnf); (refine CallKN.ex hcn ?_); (rintro _ _ ⟨c, rfl, rfl, hc⟩); (conv => whnf)) | ((first | ((with_reducible apply Nm.mk); focus ((try simp only [lns]); exact rfl)) | ((with_reducible first | apply Wr.i64 | apply Wr.u64); focus omega) | ((with_reducible apply Need.mk); focus omega) | ((with_reducible apply Bif.dec) <;> intro h <;> (try simp only [lns] at h) <;> (try (exfalso; omega))) | (with_reducible apply Bif.not) | ((with_reducible apply Bif.mk) <;> intro h) | (with_reducible apply Frz.l)) <;> conv => whnf) | fail)
      · obtain ⟨r0, hr0⟩ := hc.1 h
        obtain ⟨p0, hp0⟩ := I.found g hT0 hr0
        have hb0 := below_no (P := P) (c := pc p0) (v := 0) (fun p e => by rw [hp0] at e; cases e; omega) n (by omega)
        refine loop_keep ttok mixed (T0 := 3618502788669422116150275644449620291425387979844456929257155231884976848883) [1, 10] (ι := WkI n T P)
          (fun q => [(24, int (q.j : Int)), (23, int (q.v : Int)), (6, .pb 1 [])])
          (fun q => [.cells (tape l kt), .cells (.agg [.ov 5 2 0 n, linkV A]), .arr none 5 (lst reaF R2)]) (fun q => n - q.j)
          ⟨0, 0, by omega, Nat.zero_le _, fun _ => ⟨p0, hp0, by omega⟩⟩ ?_
        conv => whnf
        repeat' (first | ((first | (with_reducible apply Same.rfl) | (apply Same.int; focus rfl) | (with_reducible apply Frz.l)) <;> conv => whnf) | fail)
        rintro ⟨v, j, hv, hj, hp⟩
        dsimp only
        conv => whnf
        by_cases hvT : v = T
        · subst hvT
          repeat' (first | with_reducible apply True.intro | ((first | (apply CallN.mk (k_known)) | (with_reducible first | apply Bif.T | apply Bif.F) | ((with_reducible first | apply Bif.dec | apply Bif.beq | apply Bif.bne) <;> intro h <;> (try simp only [lns] at h) <;> (try (exfalso; omega))) | (with_reducible apply Same.rfl) | (with_reducible apply Frz.l)) <;> conv => whnf) | fail)
        · obtain ⟨p, hp, hjb⟩ := hp hvT
          obtain ⟨y, r, ep, hA, hy⟩ := I.next hp
          have hyn := (g.rg _ _ hA).2
          have cN := k_xNext (reaG T Q P v) 7 ((T : Int) + 1) (I.hok g hT0 hTn hv).rv.ok
          rw [nextG g hT0 hTn I hv hvT, hp, ep] at cN
          have hst : (lst reaF R2)[v]? = some (reaF (reaG T Q P v)) := by rw [lst_get (by omega), st2 v hv]
          have hx1 := row_at A (i := v) (by omega)
          have hx2 := cell_at A v (j := y) (by omega)
          have cN : Con Try.prog 31 [reaF (reaG T Q P v), int 7, .v (.int .u64 ((T : Int) + 1))] [] (.tup [.v (.int .u64 ((y : Int) + 1)), int 0]) [] := cN
          have hwy : IntKind.wrap .u64 ((y : Int) + 1 - 1) = (y : Int) := by
            rw [show (y : Int) + 1 - 1 = (y : Int) by omega]
            simp [IntKind.wrap, IntKind.bits, IntKind.signed]; omega
          have hnx : y ≠ T → ∃ s, P y = some s ∧ j + 1 + below P (pc s) n + 1 ≤ n := fun hyT => by
            rcases hy with e | ⟨s, h1, h2⟩
            · exact absurd e hyT
            · have := below_lt h2 h1 rfl n hyn
              exact ⟨s, h1, by omega⟩
          repeat' (first | ((apply Elem.mk _ hst); (conv => whnf)) | ((apply Elem.mk _ hx1); (conv => whnf)) | ((apply Elem.mk _ hx2); (conv => whnf)) | ((apply Wr.eq hwy); (conv => whnf)) | ((first | ((with_reducible apply Nm.mk); focus ((try simp only [lns]); exact rfl)) | ((with_reducible first | apply Wr.i64 | apply Wr.u64); focus omega) | ((with_reducible apply Need.mk); focus first | omega | kernel_rfl) | (apply CallN.mk (cN)) | (with_reducible first | apply Bif.T | apply Bif.F) | ((with_reducible first | apply Bif.dec | apply Bif.bne) <;> intro h <;> (try simp only [lns] at h) <;> (try first | (exfalso; omega) | exact absurd (Int.ofNat_inj.1 h) hvT)) | (with_reducible apply Bif.not) | ((with_reducible apply Bif.mk) <;> intro h <;> (try exact tfE hA h)) | (with_reducible apply Frz.l)) <;> conv => whnf) | fail)
          (refine ⟨⟨y, j + 1, hyn, by omega, hnx⟩, ?_⟩; (try dsimp only); conv => whnf); repeat' (first | with_reducible apply True.intro | ((first | ((with_reducible apply Need.mk); focus omega) | (with_reducible apply Same.rfl) | (apply Same.int; focus first | rfl | omega) | (with_reducible apply Turn.l) | (with_reducible apply Frz.l)) <;> conv => whnf) | fail)
      · have hP0 : P 0 = none := by
          cases e : P 0 with
          | none => rfl
          | some p =>
            exfalso
            obtain ⟨r, r1, r2, r3, _⟩ := I.p1 0 p e
            obtain ⟨r', w1, _⟩ := r3.walk g.sy r1 (Pt.one (A := A) (o := 0))
            have := hc.2 ⟨r', w1⟩
            rw [h] at this
            cases this
        rw [hP0] at cN0
        repeat' (first | with_reducible apply True.intro | ((first | (apply CallN.mk (cN0)) | (apply CallN.mk (k_known)) | (with_reducible apply Bif.T) | ((with_reducible apply Bif.beq) <;> intro h <;> (try simp only [lns] at h) <;> (try (exfalso; omega))) | (with_reducible apply Same.rfl) | (with_reducible apply Frz.l)) <;> conv => whnf) | fail)
    · have hFp : 0 < F.length := List.length_pos_iff.2 hF
      repeat' (first | ((first | ((with_reducible apply Nm.mk); focus ((try simp only [lns]); exact rfl)) | ((with_reducible apply Need.mk); focus omega) | (refine CallN.ex (k_tape_Next l _ (F.length : Int) hkt ht (by omega)) ?_; rintro _ _ ⟨x, k2, rfl, rfl, f1, f2, f3⟩) | ((with_reducible apply Bif.dec) <;> intro h <;> (try simp only [lns] at h) <;> (try (exfalso; omega))) | (with_reducible apply Frz.l)) <;> conv => whnf) | fail)
      obtain ⟨i, hi⟩ : ∃ i : Nat, x = (i : Int) := ⟨x.toNat, by omega⟩
      subst hi
      have hil : i < F.length := by omega
      obtain ⟨a, f, b, e, ha⟩ : ∃ a f b, F = a ++ f :: b ∧ a.length = i := ⟨F.take i, F[i], F.drop (i + 1), by rw [← List.drop_eq_getElem_cons hil, List.take_append_drop], by simp; omega⟩
      subst e
      obtain ⟨hx, hy, hxy, hrv, Q', P', out, snds, hh, hs, I', hphi, hrest, hsl⟩ := I.step g hT0 hTn
      have hE : (lst airV ((a ++ f :: b).map (airOf T)))[i]? = some (SV.agg [int (f.to : Int), int ((f.p.headD 0 : Nat) : Int), msgV (msgG T f)]) := by
        have h1 : (lst airV ((a ++ f :: b).map (airOf T)))[i]? = some (airV (airOf T f)) := by rw [← ha]; simp [lst]
        exact h1
      have hlen : (lst airV ((a ++ f :: b).map (airOf T))).length = (a ++ f :: b).length := by simp [lst]
      have cD := k_Delete_Air (lst airV ((a ++ f :: b).map (airOf T))) i (by rw [hlen]; exact hil) (by rw [hlen]; omega)
      have hdel : (lst airV ((a ++ f :: b).map (airOf T))).take i ++ (lst airV ((a ++ f :: b).map (airOf T))).drop (i + 1) = lst airV ((a ++ b).map (airOf T)) := by
        have h1 : a.length = (List.map airV (List.map (airOf T) a)).length := by simp
        simp only [lst, List.map_append, List.map_cons]
        rw [← ha, List.take_left' h1.symm, h1, List.drop_length_add_append]
        rfl
      have hl1 : (a ++ f :: b).length - 1 = (a ++ b).length := by simp
      rw [hlen, hdel, hl1] at cD
      have cH := k_xHear (reaG T Q P f.to) 6 ((f.p.headD 0 : Nat) + 1) (lc (f.p.headD 0) f.to : Nat) (msgG T f) hrv.ok (by unfold msgG; split <;> exact ⟨by show (0 : Int) ≤ 1; omega, by show (0 : Int) ≤ (T : Int) + 1; omega⟩)
      rw [hh] at cH
      dsimp only [reaO, reaH, List.cons_append, List.nil_append] at cH
      have hst : (lst reaF R2)[f.to]? = some (reaF (reaG T Q P f.to)) := by rw [lst_get (by omega), st2 _ hx]
      have R3 : (R2.set f.to (reaG T Q' P' f.to)).length = n := by rw [List.length_set]; exact hR2
      have st3 : ∀ v, v < n → gt (R2.set f.to (reaG T Q' P' f.to)) v = reaG T Q' P' v := fun v hv => by
        rw [gt_set (by omega)]
        by_cases e : v = f.to
        · rw [if_pos e, e]
        · rw [if_neg e, st2 v hv, hrest v e]
      have eR : (lst reaF R2).set f.to (reaF (reaG T Q' P' f.to)) = lst reaF (R2.set f.to (reaG T Q' P' f.to)) := lst_set R2 f.to _
      have hsp := k_spread n f.to h5.1 hx A (R2.set f.to (reaG T Q' P' f.to)) R3 snds hsl
      rw [← eR] at hsp
      have hc1 : f.p.headD 0 ≤ 5 := by omega
      have hm1 : IntKind.wrap .i64 ((((f.p.headD 0 : Nat) : Int) + 1) * ((f.to : Int) + 1)) = (((f.p.headD 0 + 1) * (f.to + 1) : Nat) : Int) := by
        have h1 : (f.p.headD 0 + 1) * (f.to + 1) ≤ 6 * 6 := Nat.mul_le_mul (by omega) (by omega)
        have h2 : (((f.p.headD 0 : Nat) : Int) + 1) * ((f.to : Int) + 1) = (((f.p.headD 0 + 1) * (f.to + 1) : Nat) : Int) := by simp
        rw [h2, wrap64_id (by omega)]
      have hm2 : IntKind.wrap .i64 (1 + (((f.p.headD 0 + 1) * (f.to + 1) : Nat) : Int)) = ((lc (f.p.headD 0) f.to : Nat) : Int) := by
        have h1 : (f.p.headD 0 + 1) * (f.to + 1) ≤ 6 * 6 := Nat.mul_le_mul (by omega) (by omega)
        rw [wrap64_id (by omega)]
        unfold lc
        omega
      have eO : (a ++ b).map (airOf T) ++ sprM A n f.to snds = (a ++ b ++ out).map (airOf T) := by rw [hs, ← List.map_append]
      have lO : (sprM A n f.to snds).length = out.length := by rw [hs, List.length_map]
      have eO2 : (a ++ b).map (airOf T) ++ (sprM A n f.to snds).take out.length = (a ++ b ++ out).map (airOf T) := by rw [← lO, List.take_length, eO]
      have hl3 := I'.len_le g hTn
      have hl4 : a.length + b.length + out.length = (a ++ b ++ out).length := by simp; omega
      have hph3 : wts (a ++ b ++ out) ≤ phi n Q' (a ++ b ++ out) := by unfold phi; omega
      repeat' (first | ((apply Elem.mk _ hE); (conv => whnf)) | ((apply Elem.mk _ hst); (conv => whnf)) | ((apply Wr.eq hm1); (conv => whnf)) | ((apply Wr.eq hm2); (conv => whnf)) | ((with_reducible apply GiveN.mk [0]); (conv => whnf); (apply CallN.mk cD); (conv => whnf)) | ((with_reducible apply GiveN.keep [2]); (conv => whnf); (apply CallKN.mk hsp); (conv => whnf)) | ((first | ((with_reducible apply Nm.mk); focus ((try simp only [lns, List.length_map, lO]); exact rfl)) | ((with_reducible first | apply Wr.i64 | apply Wr.u64); focus omega) | ((with_reducible apply Need.mk); focus first | omega | (simp only [lns, List.length_map, lO]; omega) | kernel_rfl | (unfold roomOK; simp only [lns, List.length_map, lO]; omega)) | (apply CallN.mk (cH)) | (with_reducible apply Bif.F) | ((with_reducible first | apply Bif.dec | apply Bif.bne) <;> intro h <;> (try simp only [lns, List.length_map, lO] at h) <;> (try (exfalso; omega))) | (with_reducible apply Alt.l) | (with_reducible apply Frz.l)) <;> conv => whnf) | fail)
      (refine ⟨⟨s + 1, Q', P', a ++ b ++ out, R2.set f.to (reaG T Q' P' f.to), k2, I', by omega, R3, st3, f3⟩, ?_⟩; (try dsimp only); conv => whnf); repeat' (first | with_reducible apply True.intro | ((rw [eO2]); (conv => whnf)) | ((apply Same.mk eR); (conv => whnf)) | ((with_reducible apply Turn.r); (conv => whnf)) | ((first | ((with_reducible apply Need.mk); focus omega) | (with_reducible apply Same.rfl) | (apply Same.int; focus rfl) | ((with_reducible apply Same.mk); focus omega) | (with_reducible apply Cut.l) | (with_reducible apply Frz.l)) <;> conv => whnf) | fail)
  done
end Fnd
end Go.Fw
