/- TopDownward: the walk. -/
import Derived.Test.YtlkhjalnnciocaaGreatDwnG
namespace Go.Fw
open Go.Proofs
set_option maxHeartbeats 8000000
set_option maxRecDepth 8000
theorem ot_sto (l : List Ro) : ofType (tt 73) (stoV l) = true := by cases l <;> rfl
structure EvI (n : Nat) where
  e : Nat
  P : List Int
  R : Nat → Nat
  S : List UInt8
  H : List Bool
  T : List (List Ro)
  k : Int
  he : e ≤ 14
  hk : 0 ≤ k
  w : Dw n e n P R S H T
structure UpI (n X s : Nat) (P : List Int) (R : Nat → Nat) (T : List (List Ro)) where
  c : Nat
  j : Nat
  T' : List (List Ro)
  u : Up n X s P R T T' c j
theorem stoV_ne {l : List Ro} (h : l ≠ []) : SV.fs .no 20 (lst roV l) = stoV l := by
  cases l with
  | nil => exact absurd rfl h
  | cons a l => rfl
/-- The check down the way. -/
structure ChI (n k : Nat) (P : List Int) (R : Nat → Nat) (H : List Bool) where
  v : Nat
  j : Nat
  hv : v < n
  hj : j ≤ R v
  way : gt H k = true → Way P k v
/-- No node below j (but the root) has x as its parent. -/
def leafB (P : List Int) (x : Nat) : Nat → Bool
  | 0 => true
  | j + 1 => leafB P x j && (decide (j = 0) || decide (gt P j ≠ (x : Int)))
theorem leafB_iff {P : List Int} {x : Nat} : ∀ {j : Nat}, leafB P x j = true → ∀ i, i ≠ 0 → i < j → gt P i ≠ (x : Int)
  | 0, _, i, _, h => absurd h (Nat.not_lt_zero i)
  | j + 1, h, i, h0, hi => by
    simp only [leafB, Bool.and_eq_true, Bool.or_eq_true, decide_eq_true_eq] at h
    obtain ⟨h1, h2⟩ := h
    rcases Nat.lt_or_ge i j with g | g
    · exact leafB_iff h1 i h0 g
    · obtain rfl : i = j := by omega
      rcases h2 with h2 | h2
      · exact absurd h2 h0
      · exact h2
theorem eui_sub (c : Nat) (h : c ≤ 100) : IntKind.wrap .u64 (((144115188075855873 + c : Nat) : Int) - ((144115188075855873 + 0 : Nat) : Int)) = (c : Int) := by rw [show ((144115188075855873 + c : Nat) : Int) - ((144115188075855873 + 0 : Nat) : Int) = (c : Int) by omega, wrap64u (by omega)]
theorem tfE {b : Bool} {p : Prop} (h : b = true) (g : b = false) : p := absurd (h.symm.trans g) (by decide)
theorem share3 {α β γ : Type} {G : α → β → γ → Prop} (D : α → β → γ → Prop) {Q : Prop} (main : (∀ a b c, D a b c → G a b c) → Q) (key : ∀ a b c, D a b c → G a b c) : Q := main key
theorem k_TopDownward (t : List Int) (n0 : Int) : Con Tryz.prog 5 [.fs .no 1 (ints t), int n0] [] (bool true) [] := by
  have ht : (t.take 400).length ≤ 400 := by simp; omega
  generalize hT : t.take 400 = l at ht
  have hN := k_made_New t
  rw [hT] at hN
  have c1 := k_made_Mod n0 6 (by decide)
  have r1 := modV_range (v := n0) (n := 6) (by decide)
  obtain ⟨n, hn⟩ : ∃ n : Nat, 2 + modV n0 6 = (n : Int) := ⟨(2 + modV n0 6).toNat, by omega⟩
  have hn' : modV n0 6 = (n : Int) - 2 := by omega
  rw [hn'] at c1 r1
  have hw : IntKind.wrap .i64 (2 + ((n : Int) - 2)) = (n : Int) := by rw [show 2 + ((n : Int) - 2) = (n : Int) by omega, wrap64_id (by omega)]
  refine spec_of_run ttok mixed (T0 := 107839786668651623076216201944466379110429728068122293741591076012019) (ts := [.tmp 4]) 243 rfl rfl rfl rfl (by simp) rfl ?_
  conv => whnf
  repeat' (first | ((apply Wr.eq hw); (conv => whnf)) | ((first | (with_reducible apply Nm.rep _ (int_mk _)) | ((with_reducible apply Nm.mk); focus ((try simp only [lns]); exact rfl)) | ((with_reducible apply Need.mk); focus (unfold roomOK; simp only [lns]; omega)) | (apply CallN.mk (hN)) | (apply CallN.mk (c1)) | (with_reducible apply Frz.l)) <;> conv => whnf) | fail)
  have h8 : n ≤ 7 ∧ 2 ≤ n := by omega
  clear hw hn hn' r1 c1 hN
  refine loop_keep ttok mixed (T0 := 107839786668651623076216201944466379110429728068122293741591076012019) [] (ι := {q : Nat × List Int × Int // 1 ≤ q.1 ∧ q.1 ≤ n ∧ q.2.1.length = n ∧ 0 ≤ q.2.2 ∧ gt q.2.1 0 = 0 ∧ ∀ j, j ≠ 0 → j < q.1 → 0 ≤ gt q.2.1 j ∧ gt q.2.1 j < j})
    (fun q => [(1, int (n : Int)), (5, .pb 0 []), (6, .ov 1 1 0 n), (7, int (q.1.1 : Int))]) (fun q => [.cells (tape l q.1.2.2), .arr (some n) 1 (ints q.1.2.1)]) (fun q => n - q.1.1)
    ⟨(1, List.replicate n 0, 0), Nat.le_refl 1, by show 1 ≤ n; omega, by simp, Int.le_refl 0, gt_repl (by omega), fun j h0 hj => by have : j < 1 := hj; omega⟩ ?_
  conv => whnf
  repeat' (first | ((first | (with_reducible apply Same.rfl) | (apply Same.int; focus rfl) | (with_reducible apply Frz.l)) <;> conv => whnf) | fail)
  rintro ⟨⟨i, P, kt⟩, hi1, hin, hPl, hkt, hP0, hP⟩
  dsimp only at hi1 hin hPl hkt hP0 hP ⊢
  conv => whnf
  by_cases hi : i < n
  · repeat' (first | ((first | (with_reducible apply Nm.set _ (int_mk _)) | ((with_reducible apply Nm.mk); focus ((try simp only [lns, hPl]); exact rfl)) | ((with_reducible apply Wr.i64); focus omega) | ((with_reducible apply Need.mk); focus omega) | ((with_reducible apply Elem.lst); focus omega) | (refine CallN.ex (k_tape_Next l _ (i : Int) hkt ht (by omega)) ?_; rintro _ _ ⟨x, k1, rfl, rfl, g1, g2, g3⟩) | ((with_reducible apply Bif.dec) <;> intro h <;> (try simp only [lns, hPl] at h) <;> (try (exfalso; omega))) | (with_reducible apply Frz.l)) <;> conv => whnf) | fail)
    (refine ⟨⟨(i + 1, P.set i x, k1), by show 1 ≤ i + 1; omega, hi, by rw [List.length_set]; exact hPl, g3, by rw [gt_set (by omega), if_neg (by omega)]; exact hP0, fun j h0 hj => by
      rw [gt_set (by omega)]
      by_cases g : j = i
      · rw [if_pos g, g]; omega
      · rw [if_neg g]; exact hP j h0 (by have : j < i + 1 := hj; omega)⟩, ?_⟩; (try dsimp only); conv => whnf); repeat' (first | with_reducible apply True.intro | ((first | ((with_reducible apply Need.mk); focus omega) | (with_reducible apply Same.rfl) | (apply Same.int; focus rfl) | (with_reducible apply Turn.l) | (with_reducible apply Frz.l)) <;> conv => whnf) | fail)
  · obtain rfl : n = i := by omega
    repeat' (first | ((first | (with_reducible first | apply Nm.rep _ (bool_mk _) | apply Nm.rep _ (rfl)) | ((with_reducible apply Nm.mk); focus ((try simp only [lns, hPl]); exact rfl)) | ((with_reducible apply Need.mk); focus (unfold roomOK; simp only [lns, hPl]; omega)) | ((with_reducible apply Bif.dec) <;> intro h <;> (try simp only [lns, hPl] at h) <;> (try (exfalso; omega))) | (with_reducible apply Frz.l)) <;> conv => whnf) | fail)
    refine loop_keep ttok mixed (T0 := 107839786668651623076216201944466379110429728068122293741591076012019) [] (ι := {q : Nat × List UInt8 × Int // q.1 ≤ n ∧ q.2.1.length = n ∧ 0 ≤ q.2.2})
      (fun q => [(1, int (n : Int)), (5, .pb 0 []), (6, .ov 1 1 0 n), (8, .ov 1 2 0 n), (9, .ov 1 3 0 n), (10, .ov 1 4 0 n), (11, int (q.1.1 : Int))])
      (fun q => [.cells (tape l q.1.2.2), .arr (some n) 1 (ints P), .arr (some n) 1 (lst stoV (List.replicate n [])), .arr (some n) 1 (lst b8 q.1.2.1), .arr (some n) 1 (lst bool (List.replicate n false))]) (fun q => n - q.1.1)
      ⟨(0, List.replicate n 0, kt), Nat.zero_le _, by simp, hkt⟩ ?_
    conv => whnf
    have e1 : lst SV.v (List.replicate n (Value.slice none 0 0)) = lst stoV (List.replicate n []) := by
      show List.map _ _ = List.map _ _
      rw [List.map_replicate, List.map_replicate]; rfl
    have e2 : lst SV.v (List.replicate n (Value.int .u8 0)) = lst b8 (List.replicate n 0) := by
      show List.map _ _ = List.map _ _
      rw [List.map_replicate, List.map_replicate]; rfl
    repeat' (first | ((apply Same.mk e1); (conv => whnf)) | ((apply Same.mk e2); (conv => whnf)) | ((first | (with_reducible apply Same.rfl) | (apply Same.int; focus rfl) | (with_reducible apply Frz.l)) <;> conv => whnf) | fail)
    clear e1 e2
    rintro ⟨⟨i, S, ks⟩, hin2, hSl, hks⟩
    dsimp only at hin2 hSl hks ⊢
    conv => whnf
    by_cases hi : i < n
    · repeat' (first | ((apply Wr.eq (wrapB _)); (conv => whnf)) | ((first | ((with_reducible apply Nm.mk); focus ((try simp only [lns, hSl]); exact rfl)) | ((with_reducible apply Wr.i64); focus omega) | ((with_reducible apply Need.mk); focus omega) | ((with_reducible apply Elem.lst); focus omega) | (refine CallN.ex (k_tape_Next l _ 256 hks ht (by omega)) ?_; rintro _ _ ⟨x, k1, rfl, rfl, g1, g2, g3⟩) | ((with_reducible apply Bif.dec) <;> intro h <;> (try simp only [lns, hSl] at h) <;> (try (exfalso; omega))) | (with_reducible apply Frz.l)) <;> conv => whnf) | fail)
      (refine ⟨⟨(i + 1, S.set i (UInt8.ofNat (IntKind.wrap .u8 x).toNat), k1), hi, by rw [List.length_set]; exact hSl, g3⟩, ?_⟩; (try dsimp only); conv => whnf); repeat' (first | with_reducible apply True.intro | ((apply Same.mk (by rw [← lst_set]; rfl)); (conv => whnf)) | ((first | ((with_reducible apply Need.mk); focus omega) | (with_reducible apply Same.rfl) | (apply Same.int; focus rfl) | (with_reducible apply Turn.l) | (with_reducible apply Frz.l)) <;> conv => whnf) | fail)
    · obtain rfl : n = i := by omega
      repeat' (first | ((first | ((with_reducible apply Bif.dec) <;> intro h <;> (try simp only [lns, hSl] at h) <;> (try (exfalso; omega))) | (with_reducible apply Frz.l)) <;> conv => whnf) | fail)
      refine loop_keep ttok mixed (T0 := 107839786668651623076216201944466379110429728068122293741591076012019) [] (ι := EvI n)
        (fun q => [(1, int (n : Int)), (5, .pb 0 []), (6, .ov 1 1 0 n), (8, .ov 1 2 0 n), (9, .ov 1 3 0 n), (10, .ov 1 4 0 n), (12, int (q.e : Int))])
        (fun q => [.cells (tape l q.k), .arr (some n) 1 (ints q.P), .arr (some n) 1 (lst stoV q.T), .arr (some n) 1 (lst b8 q.S), .arr (some n) 1 (lst bool q.H)]) (fun q => 14 - q.e)
        ⟨0, P, id, S, List.replicate n false, List.replicate n [], ks, by decide, hks, Dw.init hPl hSl (fun _ => hP0) hP⟩ ?_
      conv => whnf
      repeat' (first | ((first | (with_reducible apply Same.rfl) | (apply Same.int; focus rfl) | (with_reducible apply Frz.l)) <;> conv => whnf) | fail)
      rintro ⟨e, P, R, S, H, T, kt, he, hkt, w⟩
      have tPl := w.t.len
      have tSl := w.sl
      have tHl := w.hl
      have tTl := w.tl
      dsimp only
      conv => whnf
      by_cases he14 : e < 14
      · repeat' (first | ((first | ((with_reducible apply Wr.i64); focus omega) | (refine CallN.ex (k_tape_Next l _ ((n : Int) - 1) hkt ht (by omega)) ?_; rintro _ _ ⟨x, k1, rfl, rfl, g1, g2, g3⟩) | ((with_reducible apply Bif.dec) <;> intro h <;> (try simp only [lns] at h) <;> (try (exfalso; omega))) | (with_reducible apply Frz.l)) <;> conv => whnf) | fail)
        obtain ⟨X, hX⟩ : ∃ X : Nat, x = (X : Int) - 1 := ⟨(x + 1).toNat, by omega⟩
        subst hX
        refine loop_keep ttok mixed (T0 := 107839786668651623076216201944466379110429728068122293741591076012019) [1, 12] (ι := {j : Nat // j ≤ n})
          (fun q => [(15, int (q.1 : Int)), (14, bool (leafB P X q.1)), (13, int (X : Int)), (5, .pb 0 []), (6, .ov 1 1 0 n), (8, .ov 1 2 0 n), (9, .ov 1 3 0 n), (10, .ov 1 4 0 n)])
          (fun _ => [.cells (tape l k1), .arr (some n) 1 (ints P), .arr (some n) 1 (lst stoV T), .arr (some n) 1 (lst b8 S), .arr (some n) 1 (lst bool H)]) (fun q => n - q.1) ⟨0, Nat.zero_le _⟩ ?_
        conv => whnf
        repeat' (first | ((apply Same.mk (show int (1 + ((X : Int) - 1)) = int (X : Int) by rw [show 1 + ((X : Int) - 1) = (X : Int) by omega])); (conv => whnf)) | ((first | (with_reducible apply Same.rfl) | (apply Same.int; focus rfl) | (apply Same.rfl) | (with_reducible apply Frz.l)) <;> conv => whnf) | fail)
        rintro ⟨j, hj⟩
        dsimp only
        conv => whnf
        by_cases hjn : j < n
        · have hl1 : leafB P X (j + 1) = (leafB P X j && (decide (j = 0) || decide (gt P j ≠ (X : Int)))) := rfl
          repeat' (first | ((first | ((with_reducible apply Nm.mk); focus ((try simp only [lns]); exact rfl)) | ((with_reducible apply Wr.i64); focus omega) | ((with_reducible apply Need.mk); focus omega) | ((with_reducible apply Elem.lst); focus omega) | (with_reducible first | apply Bif.T | apply Bif.F) | ((with_reducible first | apply Bif.dec | apply Bif.beq) <;> intro h <;> (try simp only [lns] at h) <;> (try (exfalso; omega))) | ((with_reducible apply Bif.mk) <;> intro h) | (with_reducible apply Frz.l)) <;> conv => whnf) | fail)
          all_goals ((refine ⟨⟨j + 1, hjn⟩, ?_⟩; (try dsimp only); conv => whnf); repeat' (first | ((first | (apply Same.int; focus rfl) | (with_reducible apply Turn.l) | (with_reducible apply Frz.l)) <;> conv => whnf) | fail))
          all_goals (apply Same.bool (by
            rw [hl1]
            first
              | (simp_all; done)
              | (have e0 : decide (j = 0) = false := decide_eq_false (fun e => absurd (congrArg Int.ofNat e) ‹_›)
                 rw [e0, ‹leafB P X j = true›]; simp [bne]; rw [Bool.eq_iff_iff]; simp)); (conv => whnf); repeat' (first | with_reducible apply True.intro | ((first | ((with_reducible apply Need.mk); focus omega) | (with_reducible apply Same.rfl) | (with_reducible apply Frz.l)) <;> conv => whnf) | fail))
        · obtain rfl : n = j := by omega
          refine share3 (G := ?G) (fun (k2 : Int) P' R' => 0 ≤ k2 ∧ Dw n e X P' R' S H T) ?main ?key
          case main =>
            intro key
            repeat' (first | ((first | (with_reducible apply Nm.set _ (int_mk _)) | ((with_reducible apply Nm.mk); focus ((try simp only [lns]); exact rfl)) | ((with_reducible apply Need.mk); focus omega) | ((with_reducible apply Elem.lst); focus omega) | (refine CallN.ex (k_tape_Next l _ (n : Int) g3 ht (by omega)) ?_; rintro _ _ ⟨y, k2, rfl, rfl, f1, f2, f3⟩) | (with_reducible first | apply Bif.T | apply Bif.F) | ((with_reducible first | apply Bif.dec | apply Bif.bne) <;> intro h <;> (try simp only [lns] at h) <;> (try (exfalso; omega))) | ((with_reducible apply Bif.mk) <;> intro h) | (with_reducible apply Frz.l)) <;> conv => whnf) | fail)
            (
              obtain ⟨Y, rfl⟩ : ∃ Y : Nat, y = (Y : Int) := ⟨y.toNat, by omega⟩
              have w' := w.move (x := X) (y := Y) (by omega) (by omega) (by omega) (leafB_iff ‹_›)
              revert w'
              generalize P.set X (Y : Int) = P'
              generalize (fun j => if j = X then n - 1 else if R X < R j then R j - 1 else R j) = R'
              intro w'
              have w := True.intro)
            all_goals try (
              have w' := w.stay (x := X)
              rename List Int => P'
              rename Nat → Nat => R')
            all_goals (
              have tPl' := w'.t.len
              have hb : b8 (UInt8.ofNat (incC (gt S X).toNat)) = .v (.int .u8 (incC (gt S X).toNat : Int)) := by
                have : incC (gt S X).toNat ≤ 255 := by have := (gt S X).toNat_lt; unfold incC; split <;> omega
                show SV.v (.int .u8 ((UInt8.ofNat (incC (gt S X).toNat)).toNat : Int)) = _
                rw [UInt8.toNat_ofNat', Nat.mod_eq_of_lt (by omega)]
              have cI := k_Increment (gt S X).toNat (by have := (gt S X).toNat_lt; omega)
              rw [← hb] at cI
              have cX := k_ip X (by omega)
              have pX := w'.t.rng X (by omega)
              have gX : gt (S.set X (UInt8.ofNat (incC (gt S X).toNat))) X = UInt8.ofNat (incC (gt S X).toNat) := by rw [gt_set (by omega), if_pos rfl]
              repeat' (first | ((first | (with_reducible first | apply Nm.set _ (bool_mk _) | apply Nm.set _ (rfl)) | ((with_reducible apply Nm.mk); focus ((try simp only [lns]); exact rfl)) | ((with_reducible apply Need.mk); focus first | omega | kernel_rfl) | ((with_reducible apply Elem.lst); focus first | omega | (simp only [lns]; omega)) | (apply CallN.mk (cI)) | (apply CallN.mk (cX)) | (with_reducible apply Frz.l)) <;> conv => whnf) | fail))
            all_goals (
              have sl := w'.sl
              have hl := w'.hl
              have tl := w'.tl
              have hRX := w'.t.top X (by omega)
              refine loop_keep ttok mixed (T0 := 107839786668651623076216201944466379110429728068122293741591076012019) [1, 12, 13] (ι := UpI n X (incC (gt S X).toNat) P' R' T)
                (fun q => [(20, int (q.j : Int)), (19, int (gt P' q.c)), (18, int (q.c : Int)), (17, .pb 5 []), (5, .pb 0 []), (6, .ov 1 1 0 n), (8, .ov 1 2 0 n), (9, .ov 1 3 0 n), (10, .ov 1 4 0 n)])
                (fun q => [.cells (tape l k2), .arr (some n) 1 (lst int P'), .arr (some n) 1 (lst stoV q.T'), .arr (some n) 1 (lst b8 (S.set X (UInt8.ofNat (incC (gt S X).toNat)))), .arr (some n) 1 (lst bool (H.set X true)),
                  .cells (.agg [pfxV (tgt X), .v (.int .u8 (incC (gt S X).toNat : Int)), int 500])]) (fun q => n - q.j)
                ⟨X, 0, T, .here, by omega, by omega, tl, w'.tb, fun _ _ _ => rfl, fun _ h _ => .inr h, fun _ _ _ _ => Iff.rfl, fun _ _ _ h _ => .inl h⟩ ?_
              conv => whnf
              repeat' (first | ((rw [gX, hb]); (conv => whnf)) | ((first | (with_reducible apply Same.rfl) | (apply Same.int; focus rfl) | (apply Same.rfl) | (with_reducible apply Frz.l)) <;> conv => whnf) | fail)
              exact key _ _ _ ⟨f3, w'⟩)
          case key =>
            rintro k2 P' R' ⟨f3, w'⟩
            have tPl' := w'.t.len
            have hb : b8 (UInt8.ofNat (incC (gt S X).toNat)) = .v (.int .u8 (incC (gt S X).toNat : Int)) := by
              have : incC (gt S X).toNat ≤ 255 := by have := (gt S X).toNat_lt; unfold incC; split <;> omega
              show SV.v (.int .u8 ((UInt8.ofNat (incC (gt S X).toNat)).toNat : Int)) = _
              rw [UInt8.toNat_ofNat', Nat.mod_eq_of_lt (by omega)]
            have sl := w'.sl
            have hl := w'.hl
            have tl := w'.tl
            rintro ⟨c, j, T', u⟩
            dsimp only
            conv => whnf
            refine share3 (G := ?G2) (fun (T2 : List (List Ro)) (S2 : List UInt8) (H2 : List Bool) => Dw n (e + 1) n P' R' S2 H2 T2) ?main2 ?key2
            case main2 =>
              intro key2
              have hjn := u.jb
              have hc0 := u.c0
              have hcn := w'.t.way (by omega) u.way
              have hp := w'.t.rng c hcn
              have hRc := w'.t.up c u.c0 hcn
              have tl' := u.tl
              obtain ⟨o1, o2⟩ := u.oldR w' (by omega) (by omega)
              obtain ⟨s1, s2, s3, s4, s5, s6⟩ := u.step (e := e) w'.t (by omega) (by omega) (by omega)
              have ce := k_eui c (by omega)
              have hi8 : incC (gt S X).toNat ≤ 255 := by have := (gt S X).toNat_lt; unfold incC; split <;> omega
              have cA := k_sAccept (gt T' (gt P' c).toNat) (u.tb _ (by omega)) e (euiD c) X (incC (gt S X).toNat) (by omega) ⟨by show 144115188075855873 + c ≠ 0; omega, by show 144115188075855873 + c ≤ _; omega⟩ (by omega) hi8 o2 o1
              have hg0 : (lst stoV T')[(gt P' c).toNat]? = some (stoV (gt T' (gt P' c).toNat)) := lst_get (by omega)
              have hz0 := insR_ne (gt T' (gt P' c).toNat) ⟨X, euiD c, incC (gt S X).toNat, e + 500⟩
              have hst : stepT P' T' c ⟨X, euiD c, incC (gt S X).toNat, e + 500⟩ = T'.set (gt P' c).toNat (insR (gt T' (gt P' c).toNat) ⟨X, euiD c, incC (gt S X).toNat, e + 500⟩) := rfl
              revert hst s1 s2 s3 s4 s5 s6
              generalize stepT P' T' c ⟨X, euiD c, incC (gt S X).toNat, e + 500⟩ = T2
              revert hz0 cA
              generalize insR (gt T' (gt P' c).toNat) ⟨X, euiD c, incC (gt S X).toNat, e + 500⟩ = Z
              intro cA hz0 s1 s2 s3 s4 s5 s6 hst
              cases hT0 : gt T' (gt P' c).toNat
              all_goals (
                rw [hT0] at cA hg0
                repeat' (first | ((apply Elem.mk _ hg0); (conv => whnf)) | ((apply Nm.set Z (stoV_ne hz0)); (conv => whnf)) | ((first | ((with_reducible apply Nm.mk); focus ((try simp only [lns]); exact rfl)) | ((with_reducible apply Wr.i64); focus omega) | ((with_reducible apply Need.mk); focus first | omega | (simp only [lns]; omega) | kernel_rfl) | ((with_reducible apply Elem.lst); focus omega) | (apply CallN.mk (ce)) | (apply CallN.mk (cA)) | (with_reducible first | apply Bif.T | apply Bif.F) | ((with_reducible first | apply Bif.dec | apply Bif.beq | apply Bif.bne) <;> intro h <;> (try simp only [lns] at h) <;> (try (exfalso; omega))) | (with_reducible apply Bif.not) | (with_reducible apply Frz.l)) <;> conv => whnf) | fail))
              all_goals (subst hst)
              all_goals try (
                have hup : gt P' c ≠ 0 := ‹_›
                (refine ⟨⟨(gt P' c).toNat, j + 1, T'.set (gt P' c).toNat Z, .up u.way hc0, by omega, by omega, s2, s1, s3, s4, s5, s6⟩, ?_⟩; (try dsimp only); conv => whnf); repeat' (first | with_reducible apply True.intro | ((first | ((with_reducible apply Need.mk); focus omega) | (with_reducible apply Same.rfl) | (apply Same.int; focus first | rfl | omega) | (with_reducible apply Turn.l) | (with_reducible apply Frz.l)) <;> conv => whnf) | fail))
              all_goals (
                have hup : gt P' c = 0 := ‹_›
                have w2 := Up.done w' (by omega) s2 s1 (fun d hd h0 => by
                  rcases s4 d hd h0 with ⟨_, h⟩ | h
                  · exact h
                  · rw [hup] at h
                    exact absurd (Way.zero h) h0) s5 s6
                revert w2
                clear s1 s2 s3 s4 s5 s6
                generalize T'.set (gt P' c).toNat Z = T2
                generalize S.set X (UInt8.ofNat (incC (gt S X).toNat)) = S2
                generalize H.set X true = H2
                intro w2
                have sl2 := w2.sl
                have hl2 := w2.hl
                have tl2 := w2.tl
                refine loop_keep ttok mixed (T0 := 107839786668651623076216201944466379110429728068122293741591076012019) [1, 12] (ι := {k : Nat // 1 ≤ k ∧ k ≤ n})
                  (fun q => [(24, int (q.1 : Int)), (5, .pb 0 []), (6, .ov 1 1 0 n), (8, .ov 1 2 0 n), (9, .ov 1 3 0 n), (10, .ov 1 4 0 n)])
                  (fun q => [.cells (tape l k2), .arr (some n) 1 (lst int P'), .arr (some n) 1 (lst stoV T2), .arr (some n) 1 (lst b8 S2), .arr (some n) 1 (lst bool H2)]) (fun q => n - q.1)
                  ⟨1, Nat.le_refl 1, by omega⟩ ?_
                conv => whnf
                repeat' (first | ((first | (with_reducible apply Same.rfl) | (apply Same.int; focus rfl) | (with_reducible apply Frz.l)) <;> conv => whnf) | fail)
                exact key2 _ _ _ w2)
            case key2 =>
              intro T2 S2 H2 w2
              have sl2 := w2.sl
              have hl2 := w2.hl
              have tl2 := w2.tl
              rintro ⟨k, hk1, hkn⟩
              dsimp only
              conv => whnf
              by_cases hk : k < n
              · repeat' (first | ((first | ((with_reducible apply Bif.dec) <;> intro h <;> (try simp only [lns] at h) <;> (try (exfalso; omega))) | (with_reducible apply Frz.l)) <;> conv => whnf) | fail)
                refine loop_keep ttok mixed (T0 := 107839786668651623076216201944466379110429728068122293741591076012019) [1, 12, 24] (ι := ChI n k P' R' H2)
                  (fun q => [(26, int (q.j : Int)), (25, int (q.v : Int)), (5, .pb 0 []), (6, .ov 1 1 0 n), (8, .ov 1 2 0 n), (9, .ov 1 3 0 n), (10, .ov 1 4 0 n)])
                  (fun q => [.cells (tape l k2), .arr (some n) 1 (lst int P'), .arr (some n) 1 (lst stoV T2), .arr (some n) 1 (lst b8 S2), .arr (some n) 1 (lst bool H2)]) (fun q => n - q.j)
                  ⟨0, 0, by omega, Nat.zero_le _, fun _ => w2.t.root (R' k) k (Nat.le_refl _) hk⟩ ?_
                conv => whnf
                repeat' (first | ((first | (with_reducible apply Same.rfl) | (apply Same.int; focus rfl) | (with_reducible apply Frz.l)) <;> conv => whnf) | fail)
                rintro ⟨v, j2, hv, hj2, way⟩
                dsimp only
                conv => whnf
                by_cases hH : gt H2 k = true
                · by_cases hvk : v = k
                  · repeat' (first | ((first | ((with_reducible apply Nm.mk); focus ((try simp only [lns]); exact rfl)) | ((with_reducible apply Wr.i64); focus omega) | ((with_reducible apply Need.mk); focus omega) | ((with_reducible apply Elem.lst); focus omega) | (with_reducible apply Bif.T) | ((with_reducible apply Bif.bne) <;> intro h <;> (try simp only [lns] at h) <;> (try (exfalso; omega))) | ((with_reducible apply Bif.mk) <;> intro h <;> (try exact tfE hH h)) | (with_reducible apply Frz.l)) <;> conv => whnf) | fail)
                    (refine ⟨⟨k + 1, by omega, hk⟩, ?_⟩; (try dsimp only); conv => whnf); repeat' (first | with_reducible apply True.intro | ((first | ((with_reducible apply Need.mk); focus omega) | (with_reducible apply Same.rfl) | (apply Same.int; focus rfl) | (with_reducible apply Turn.l) | (with_reducible apply Frz.l)) <;> conv => whnf) | fail)
                  · obtain ⟨c2, d1, d2, d3, d4, d5, d6, d7⟩ := w2.down hk hH (way hH) hvk
                    have cn := k_sNextS (gt T2 v) (w2.tb v hv) e k (by omega) (by omega) (fun r hr => by have := w2.b v hv r hr; omega)
                    rw [if_pos d6, d7, show euiD c2 = 144115188075855873 + c2 from rfl] at cn
                    clear d7
                    have ck := k_ip k (by omega)
                    have c0 := k_eui 0 (by decide)
                    have ht2 := w2.t.top c2 d2
                    have hc7 : c2 ≤ 100 := by omega
                    have hg2 : (lst stoV T2)[v]? = some (stoV (gt T2 v)) := lst_get (by omega)
                    cases hT2 : gt T2 v
                    all_goals (
                      rw [hT2] at cn hg2
                      repeat' (first | ((apply Elem.mk _ hg2); (conv => whnf)) | ((apply Wr.eq (eui_sub c2 hc7)); (conv => whnf)) | ((first | ((with_reducible apply Nm.mk); focus ((try simp only [lns]); exact rfl)) | ((with_reducible apply Wr.i64); focus omega) | ((with_reducible apply Need.mk); focus first | omega | kernel_rfl) | ((with_reducible apply Elem.lst); focus omega) | (apply CallN.mk (ck)) | (apply CallN.mk (cn)) | (apply CallN.mk (c0)) | (with_reducible first | apply Bif.T | apply Bif.F) | ((with_reducible first | apply Bif.dec | apply Bif.beq | apply Bif.bne) <;> intro h <;> (try simp only [lns] at h) <;> (try (exfalso; omega))) | ((with_reducible apply Bif.mk) <;> intro h <;> (try exact tfE hH h)) | (with_reducible apply Frz.l)) <;> conv => whnf) | fail)
                      (refine ⟨⟨c2, j2 + 1, d2, by omega, fun _ => d4⟩, ?_⟩; (try dsimp only); conv => whnf); repeat' (first | with_reducible apply True.intro | ((first | ((with_reducible apply Need.mk); focus omega) | (with_reducible apply Same.rfl) | (apply Same.int; focus rfl) | (with_reducible apply Turn.l) | (with_reducible apply Frz.l)) <;> conv => whnf) | fail))
                · have hHf : gt H2 k = false := by simpa using hH
                  repeat' (first | ((first | ((with_reducible apply Nm.mk); focus ((try simp only [lns]); exact rfl)) | ((with_reducible apply Wr.i64); focus omega) | ((with_reducible apply Need.mk); focus omega) | ((with_reducible apply Elem.lst); focus omega) | (with_reducible apply Bif.F) | ((with_reducible apply Bif.mk) <;> intro h <;> (try exact tfE h hHf)) | (with_reducible apply Frz.l)) <;> conv => whnf) | fail)
                  (refine ⟨⟨k + 1, by omega, hk⟩, ?_⟩; (try dsimp only); conv => whnf); repeat' (first | with_reducible apply True.intro | ((first | ((with_reducible apply Need.mk); focus omega) | (with_reducible apply Same.rfl) | (apply Same.int; focus rfl) | (with_reducible apply Turn.l) | (with_reducible apply Frz.l)) <;> conv => whnf) | fail)
              · repeat' (first | ((first | ((with_reducible apply Wr.i64); focus omega) | ((with_reducible apply Bif.dec) <;> intro h <;> (try simp only [lns] at h) <;> (try (exfalso; omega))) | (with_reducible apply Frz.l)) <;> conv => whnf) | fail)
                (refine ⟨⟨e + 1, P', R', S2, H2, T2, k2, by omega, f3, w2⟩, ?_⟩; (try dsimp only); conv => whnf); repeat' (first | with_reducible apply True.intro | ((first | ((with_reducible apply Need.mk); focus omega) | (with_reducible apply Same.rfl) | (apply Same.int; focus rfl) | (with_reducible apply Turn.l) | (with_reducible apply Frz.l)) <;> conv => whnf) | fail)
      · have hf0 : fnR (gt T 0) (n + 50) = false := by
          cases hf : fnR (gt T 0) (n + 50)
          · rfl
          · obtain ⟨f1, f2⟩ := fnR_mem hf
            have := (w.b 0 (by omega) _ f1).1
            omega
        have ci : Con Tryz.prog 23 [int ((n : Int) + 50)] [] (ipV (ipD (n + 50))) [] := k_ip (n + 50) (by omega)
        obtain rfl : e = 14 := by omega
        have cn := k_sNextS (gt T 0) (w.tb 0 (by omega)) 14 (n + 50) (by omega) (by decide) (fun r hr => by have := w.b 0 (by omega) r hr; omega)
        rw [if_neg (by rw [hf0]; decide)] at cn
        have hg0 : (lst stoV T)[0]? = some (stoV (gt T 0)) := lst_get (by omega)
        cases hT0 : gt T 0 with
        | nil =>
          rw [hT0] at cn hg0
          repeat' (first | with_reducible apply True.intro | ((apply Elem.mk _ hg0); (conv => whnf)) | ((first | ((with_reducible apply Nm.mk); focus ((try simp only [lns]); exact rfl)) | ((with_reducible apply Wr.i64); focus omega) | ((with_reducible apply Need.mk); focus first | omega | kernel_rfl) | (apply CallN.mk (ci)) | (apply CallN.mk (cn)) | (apply CallN.mk (k_sane)) | (with_reducible apply Bif.T) | ((with_reducible apply Bif.dec) <;> intro h <;> (try simp only [lns] at h) <;> (try (exfalso; omega))) | (apply Same.rfl) | (with_reducible apply Frz.l)) <;> conv => whnf) | fail)
        | cons r0 T0 =>
          rw [hT0] at cn hg0
          repeat' (first | with_reducible apply True.intro | ((apply Elem.mk _ hg0); (conv => whnf)) | ((first | ((with_reducible apply Nm.mk); focus ((try simp only [lns]); exact rfl)) | ((with_reducible apply Wr.i64); focus omega) | ((with_reducible apply Need.mk); focus first | omega | kernel_rfl) | (apply CallN.mk (ci)) | (apply CallN.mk (cn)) | (apply CallN.mk (k_sane)) | (with_reducible apply Bif.T) | ((with_reducible apply Bif.dec) <;> intro h <;> (try simp only [lns] at h) <;> (try (exfalso; omega))) | (apply Same.rfl) | (with_reducible apply Frz.l)) <;> conv => whnf) | fail)
  done
end Go.Fw
