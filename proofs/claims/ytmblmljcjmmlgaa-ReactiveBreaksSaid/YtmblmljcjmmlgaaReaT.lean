/- ReactiveImproves, ReactiveEnds, ReactiveBreaks: the walks. -/
import Derived.Test.YtmblmljcjmmlgaaReaQ
namespace Go.Fw
open Go.Proofs
set_option maxHeartbeats 16000000
set_option maxRecDepth 4000
theorem tmod_range (b : Int) (h : 0 ≤ b) : 0 ≤ b.tmod 1000 ∧ b.tmod 1000 ≤ 999 := by
  rw [Int.tmod_eq_emod_of_nonneg h]; omega
/-- A state of which all paths are current. -/
structure UpR (now : Int) (R : Rea) : Prop where
  ok : ReaV R
  self : 1 ≤ R.self ∧ R.self ≤ 5
  cur : ∀ q ∈ R.paths, now < q.upto
theorem k_hearUp (R : Rea) (now nb cost : Int) (m : Msg) (hU : UpR now R) (hn : 0 ≤ now ∧ now ≤ 999) (hb : 6 ≤ nb) (hc : 1 ≤ cost ∧ cost ≤ 500) (hv : vMsg m = true) (hm : MsgOK m) :
    ∃ r hp', (∃ (X : Rea) (L : List Snd), r = .tup [reaO X 0 1 2, .ov 9 3 0 L.length, int 0] ∧ hp' = reaH X ++ [.arr none 9 (lst sndV L)] ∧ UpR now X ∧ UpP now R.paths X.paths) ∧
      Con Try.prog 13 [reaF R, int now, .v (.int .u64 nb), int cost, msgV m] [] r hp' := by
  have hs := hU.self
  have h0 := hearM_zero (r := R) (now := now) (nb := nb) (cost := cost) (m := m) hU.ok.v hv ⟨by omega, by omega⟩ ⟨by omega, by omega⟩ ⟨by omega, by omega⟩
  have hk := k_xHear R now nb cost m hU.ok.ok hm
  have hr := hearM_rv hU.ok.ok hm h0
  have hu := hearM_up hU.ok hU.cur (by omega) h0
  have hS := hearM_self R now nb cost m
  rw [h0] at hk
  refine ⟨_, _, ⟨(hearM R now nb cost m).1, (hearM R now nb cost m).2.1, rfl, rfl, ⟨hr, ?_, hu.cur⟩, hu⟩, hk⟩
  rcases hS with h | h
  · rw [h]; exact hs
  · have := hr.iff.1
    rw [h] at this
    exact absurd rfl this
theorem curV_eq {l : List Pth} {now t : Int} (h : curP l now t = true) : curV l now t = gt l (atP l t) := by
  unfold curV
  rw [if_pos h]
structure UpI (now : Int) where
  R : Rea
  k : Int
  i : Nat
  ha : 0 ≤ k
  hi : i ≤ 25
  hU : UpR now R
theorem k_ReactiveImproves (t : List Int) : Con Try.prog 3 [.fs .no 1 (ints t)] [] (bool true) [] := by
  have ht : (t.take 400).length ≤ 400 := by simp; omega
  generalize hT : t.take 400 = l at ht
  have hN := k_made_New t
  rw [hT] at hN
  refine spec_of_run ttok mixed (T0 := 295148173460198406909) (ts := [.tmp 2]) 72 rfl rfl rfl rfl (by simp) rfl ?_
  conv => whnf
  repeat' (first | ((first | ((with_reducible apply Need.mk); focus omega) | (apply CallN.mk (hN)) | (refine CallN.ex (k_world_Base l _ (by omega) ht) ?_; rintro _ _ ⟨b, k1, rfl, rfl, b1, b2, b3⟩) | (refine CallN.ex (k_world_EUI l _ (by omega) ht) ?_; rintro _ _ ⟨eu, k2, rfl, rfl, e1, e2, e3⟩) | (apply CallN.mk (k_xStart _))) <;> conv => whnf) | fail)
  have hn := tmod_range b b1
  generalize b.tmod 1000 = now at hn ⊢
  refine LoopN.turn [4] [(6, int 0), (3, .pb 0 []), (5, .pb 1 [])] [.cells (tape l k2), .cells (reaO (startM eu) 2 3 4), .arr none 6 (lst pthV []), .arr none 3 (lst dscV []), .arr none 6 (lst pthV [])] ?_
  conv => whnf
  repeat' (first | ((first | (with_reducible apply Same.rfl) | (apply Same.int; focus rfl) | (apply Same.rfl) | (with_reducible apply Cut.l)) <;> conv => whnf) | fail)
  refine loop_keep ttok mixed (T0 := 295148173460198406909) [4] (ι := UpI now)
    (fun p => [(6, int (p.i : Int)), (3, .pb 0 []), (5, .pb 1 [])]) (fun p => [.cells (tape l p.k), .cells (reaO p.R 2 3 4), .arr none 6 (lst pthV p.R.paths), .arr none 3 (lst dscV p.R.srch), .arr none 6 (lst pthV p.R.seen)]) (fun p => 25 - p.i) ⟨startM eu, k2, 0, by omega, by omega, ⟨⟨fun x h => (by cases h), fun x h => (by cases h), fun x h => (by cases h), startV (show eu ≠ 0 by omega)⟩, ⟨e1, e2⟩, fun q h => (by cases h)⟩⟩ ?_
  conv => whnf
  repeat' (first | ((first | (with_reducible apply Same.rfl) | (apply Same.int; focus rfl) | (apply Same.rfl)) <;> conv => whnf) | fail)
  rintro ⟨R, k, i, hk, hi, hU⟩
  dsimp only
  have hlp : R.paths.length ≤ 64 := okL_len hU.ok.iff.2.1
  conv => whnf
  by_cases hi2 : i < 25
  · repeat' (first | ((with_reducible apply Need.mk); (focus (exact clean_rea _ _ _ _ _ _ _ _ _ _ _)); (conv => whnf)) | ((first | ((with_reducible apply Nm.mk); focus ((try simp only [lns]); exact rfl)) | ((with_reducible first | apply Wr.i64 | apply Wr.u64); focus omega) | ((with_reducible apply Need.mk); focus first | (simp only [lns]; omega) | kernel_rfl) | (refine CallN.ex (k_world_EUI l _ (by omega) ht) ?_; rintro _ _ ⟨e5, k5, rfl, rfl, f1, f2, f3⟩) | (refine CallN.ex (k_tape_Next l _ _ (by omega) ht (by omega)) ?_; rintro _ _ ⟨w, k6, rfl, rfl, g1, g2, g3⟩) | (refine CallN.ex (k_world_PathMessage l _ (by omega) ht) ?_; rintro _ _ ⟨m, km, rfl, rfl, m1, m2, m3, m4, m5, m6⟩) | (refine CallN.ex (k_hearUp R now _ _ m hU hn (by omega) (by omega) m1 m2) ?_; rintro _ _ ⟨X, L, rfl, rfl, hX, hP⟩) | ((with_reducible first | apply Bif.dec | apply Bif.bne) <;> intro h <;> (try simp only [lns] at h) <;> (try (exfalso; omega))) | (with_reducible apply GiveN.lend)) <;> conv => whnf) | fail)
    refine loop_keep ttok mixed (T0 := 295148173460198406909) [45, 4, 6] (ι := {j : Nat // j ≤ R.paths.length})
      (fun j => [(46, int (j.1 : Int)), (44, .ov 6 2 0 R.paths.length), (7, .pb 9 []), (3, .pb 0 []), (5, .pb 1 [])])
      (fun j => [.cells (tape l km), .cells (reaO R 2 3 4), .arr none 6 (lst pthV R.paths), .arr none 3 (lst dscV R.srch), .arr none 6 (lst pthV R.seen), .arr none 6 (lst pthV X.paths), .arr none 3 (lst dscV X.srch), .arr none 6 (lst pthV X.seen), .arr none 9 (lst sndV L), .cells (reaO X 5 6 7)]) (fun j => R.paths.length - j.1) ⟨0, by omega⟩ ?_
    conv => whnf
    repeat' (first | ((first | (with_reducible apply Same.rfl) | (apply Same.int; focus rfl)) <;> conv => whnf) | fail)
    rintro ⟨j, hj⟩
    dsimp only
    conv => whnf
    by_cases hj2 : j < R.paths.length
    · obtain ⟨q1, q2⟩ := hP.ask hX.ok.iff.2.1 (gt_mem hj2)
      have cC := k_Current X.paths now (gt R.paths j).to hX.ok.sp hX.ok.ok.lp
      rw [curV_eq q1, q1] at cC
      repeat' (first | ((first | ((with_reducible apply Nm.mk); focus ((try simp only [lns]); exact rfl)) | ((with_reducible apply Wr.i64); focus omega) | ((with_reducible apply Need.mk); focus first | omega | (simp only [lns]; omega) | exact CleanP.nil rfl) | ((with_reducible apply Elem.lst); focus omega) | (apply CallN.mk (cC)) | (apply CallN.mk (k_refCompare _ _)) | (with_reducible first | apply Bif.T | apply Bif.F) | ((with_reducible first | apply Bif.dec | apply Bif.beq) <;> intro h <;> (try simp only [lns] at h) <;> (try (exfalso; omega))) | (with_reducible apply Bif.not) | (with_reducible apply GiveN.lend)) <;> conv => whnf) | fail)
      all_goals ((refine ⟨⟨j + 1, by omega⟩, ?_⟩; (try dsimp only); conv => whnf); repeat' (first | with_reducible apply True.intro | ((first | ((with_reducible apply Need.mk); focus omega) | (with_reducible apply Same.rfl) | (apply Same.int; focus rfl) | (with_reducible apply Turn.l)) <;> conv => whnf) | fail))
    · repeat' (first | ((first | ((with_reducible apply Wr.i64); focus omega) | ((with_reducible apply Bif.dec) <;> intro h <;> (try simp only [lns] at h) <;> (try (exfalso; omega)))) <;> conv => whnf) | fail)
      (refine ⟨⟨X, km, i + 1, m6, by omega, hX⟩, ?_⟩; (try dsimp only); conv => whnf); repeat' (first | with_reducible apply True.intro | ((with_reducible apply Turn.r); (conv => whnf)) | ((first | ((with_reducible apply Need.mk); focus omega) | (with_reducible apply Same.rfl) | (apply Same.int; focus rfl) | (with_reducible apply Cut.l)) <;> conv => whnf) | fail)
  · repeat' (first | with_reducible apply True.intro | ((first | (apply CallN.mk (k_known)) | ((with_reducible apply Bif.dec) <;> intro h <;> (try simp only [lns] at h) <;> (try (exfalso; omega))) | (with_reducible apply Same.rfl)) <;> conv => whnf) | fail)
/-! ### Ends -/
theorem reaOK_0 (s n : Int) : ReaOK ⟨s, n, [], [], []⟩ := ⟨fun x h => (by cases h), fun x h => (by cases h), fun x h => (by cases h), by simp, by simp, by simp⟩
/-- What is searched, and the number, after so many sendings. -/
def endD (t now : Int) (s : Nat) : List Dsc := if s < 3 then [⟨t, 3 - s, now + 8 * (s + 1)⟩] else []
def endN (s : Nat) : Int := min (s + 1) 3
def endE (self t now : Int) (s : Nat) : Rea := ⟨self, endN s, [], endD t now s, []⟩
theorem endE_ok {self t now : Int} {s : Nat} (h0 : 0 ≤ t) : ReaOK (endE self t now s) := by
  refine ⟨fun x h => (by cases h), fun x h => ?_, fun x h => (by cases h), by simp [endE], ?_, by simp [endE]⟩
  · have h : x ∈ endD t now s := h
    unfold endD at h
    split at h
    · rw [List.mem_singleton.1 h]; exact h0
    · cases h
  · simp only [endE, endD]
    split <;> simp
def endM (self t n : Int) : Snd := ⟨0, ⟨1, self, t, n, 0, false, 0, 32⟩⟩
theorem tickE {self t now : Int} (hs : self ≠ 0) (ht : t ≠ 0) (hst : self ≠ t) (hn : 0 ≤ now ∧ now < 1048576) {i s : Nat} (h1 : 1 ≤ i) (h2 : i < 40) (h : s = min 3 ((i - 1) / 8)) :
    ∃ s', s' = min 3 (i / 8) ∧ ((tickM (endE self t now s) (now + i) = (endE self t now s', [], 0) ∧ endN s' = endN s) ∨ (tickM (endE self t now s) (now + i) = (endE self t now s', [endM self t (endN s')], 0) ∧ endN s' = endN s + 1)) := by
  have hT : isT (now + i) := ⟨by omega, by omega⟩
  by_cases h3 : s < 3
  · have hA : isT (now + 8 * ((s : Int) + 1)) := ⟨by omega, by omega⟩
    have e : endE self t now s = oneD self (s + 1) t (3 - s) (now + 8 * (s + 1)) := by
      unfold endE endD oneD endN
      rw [if_pos h3, show min ((s : Int) + 1) 3 = s + 1 by omega]
    rw [e]
    by_cases hw : i < 8 * s + 8
    · refine ⟨s, by omega, .inl ⟨?_, rfl⟩⟩
      rw [tick_wait hs ht hst ⟨by omega, by omega⟩ hA hT (by omega), e]
    · by_cases h4 : s < 2
      · refine ⟨s + 1, by omega, .inr ⟨?_, by unfold endN; omega⟩⟩
        rw [tick_more hs ht hst ⟨by omega, by omega⟩ hA hT (by omega) (by omega)]
        have e1 : w16 ((s : Int) + 1 + 1) = endN (s + 1) := by
          unfold w16 endN
          simp [IntKind.wrap, IntKind.bits, IntKind.signed]; omega
        have e2 : lat (now + i) 8 = now + 8 * (((s + 1 : Nat) : Int) + 1) := by unfold lat; omega
        have e3 : (3 : Int) - s - 1 = 3 - ((s + 1 : Nat) : Int) := by omega
        rw [e1, e2, e3]
        unfold endE endD oneD endM
        rw [if_pos (by omega)]
      · refine ⟨s + 1, by omega, .inl ⟨?_, by unfold endN; omega⟩⟩
        rw [tick_last hs ht hst ⟨by omega, by omega⟩ hA hT (by omega) (by omega)]
        have : s = 2 := by omega
        subst this
        rfl
  · have : s = 3 := by omega
    subst this
    refine ⟨3, by omega, .inl ⟨?_, rfl⟩⟩
    exact tick_nil hs hT
structure EndI where
  i : Nat
  s : Nat
  h1 : 1 ≤ i
  h2 : i ≤ 40
  hs : s = min 3 ((i - 1) / 8)
theorem k_ReactiveEnds (n0 self t : Int) (h0 : 0 ≤ self) (ht0 : 0 ≤ t) : Con Try.prog 7 [int n0, .v (.int .u64 self), .v (.int .u64 t)] [] (bool true) [] := by
  have m1 := modV_range (v := n0) (n := 1048576) (by omega)
  have c1 := k_made_Mod n0 1048576 (by omega)
  generalize modV n0 1048576 = now at *
  refine spec_of_run ttok mixed (T0 := 174085318029045385425649607) (ts := [.tmp 6]) 107 rfl rfl rfl rfl (by simp) rfl ?_
  conv => whnf
  by_cases hs : self = 0
  · subst hs
    repeat' (first | with_reducible apply True.intro | ((first | (apply CallN.mk (c1)) | (apply CallN.mk (k_known)) | (with_reducible apply Bif.T) | ((with_reducible apply Bif.beq) <;> intro h <;> (try simp only [lns] at h) <;> (try (exfalso; omega))) | (with_reducible apply Same.rfl)) <;> conv => whnf) | fail)
  by_cases ht : t = 0
  · subst ht
    repeat' (first | with_reducible apply True.intro | ((first | (apply CallN.mk (c1)) | (apply CallN.mk (k_known)) | (with_reducible first | apply Bif.T | apply Bif.F) | ((with_reducible apply Bif.beq) <;> intro h <;> (try simp only [lns] at h) <;> (try (exfalso; omega))) | (with_reducible apply Same.rfl)) <;> conv => whnf) | fail)
  by_cases hst : self = t
  · subst hst
    repeat' (first | with_reducible apply True.intro | ((first | (apply CallN.mk (c1)) | (apply CallN.mk (k_known)) | (with_reducible apply Bif.F) | ((with_reducible apply Bif.beq) <;> intro h <;> (try simp only [lns] at h) <;> (try (exfalso; omega))) | (with_reducible apply Same.rfl)) <;> conv => whnf) | fail)
  have b1 := k_xSeek (startM self) now t (startM_ok self) ht0
  rw [seek_one hs ht hst ⟨m1.1, by omega⟩, show lat now 8 = now + 8 by unfold lat; omega] at b1
  have e1 : [(⟨t, 3, now + 8⟩ : Dsc)] = endD t now 0 := by
    unfold endD
    rw [if_pos (by omega)]
    simp
  dsimp only [reaO, reaH, oneD, List.cons_append, List.nil_append] at b1
  rw [e1] at b1
  have g1 : (gt [(⟨0, ⟨1, self, t, 1, 0, false, 0, 32⟩⟩ : Snd)] 0).msg.num = 1 := rfl
  repeat' (first | ((with_reducible apply Need.mk); (focus (exact clean_rea _ _ _ _ _ _ _ _ _ _ _)); (conv => whnf)) | ((first | ((with_reducible apply Nm.mk); focus ((try simp only [lns]); exact rfl)) | ((with_reducible apply Need.mk); focus (simp only [lns]; omega)) | ((with_reducible apply Elem.lst); focus (simp only [lns]; omega)) | (apply CallN.mk (c1)) | (apply CallN.mk (k_xStart _)) | (apply CallN.mk (b1)) | (with_reducible apply Bif.F) | ((with_reducible first | apply Bif.beq | apply Bif.bne) <;> intro h <;> (try simp only [lns] at h) <;> (try (exfalso; omega))) | (with_reducible apply GiveN.lend)) <;> conv => whnf) | fail)
  refine LoopN.turn [0] [(10, .v (.int .u16 1)), (11, int 1), (12, int 1), (7, .pb 0 [])] [.cells (reaO ⟨self, endN 0, [], endD t now 0, []⟩ 1 2 3), .arr none 6 (lst pthV []), .arr none 3 (lst dscV (endD t now 0)), .arr none 6 (lst pthV [])] ?_
  conv => whnf
  repeat' (first | ((first | (with_reducible apply Same.rfl) | (apply Same.int; focus rfl) | (with_reducible apply Cut.l)) <;> conv => whnf) | fail)
  refine loop_keep ttok mixed (T0 := 174085318029045385425649607) [0] (ι := EndI)
    (fun p => [(10, .v (.int .u16 (endN p.s))), (11, int (endN p.s)), (12, int (p.i : Int)), (7, .pb 0 [])]) (fun p => [.cells (reaO ⟨self, endN p.s, [], endD t now p.s, []⟩ 1 2 3), .arr none 6 (lst pthV []), .arr none 3 (lst dscV (endD t now p.s)), .arr none 6 (lst pthV [])]) (fun p => 40 - p.i) ⟨1, 0, by omega, by omega, by omega⟩ ?_
  conv => whnf
  repeat' (first | ((first | (with_reducible apply Same.rfl) | (apply Same.int; focus rfl)) <;> conv => whnf) | fail)
  rintro ⟨i, s, h1, h2, h3⟩
  dsimp only
  have hN : 1 ≤ endN s ∧ endN s ≤ 3 := by unfold endN; omega
  conv => whnf
  by_cases hi : i < 40
  · obtain ⟨s', hs', ⟨e, en⟩ | ⟨e, en⟩⟩ := tickE hs ht hst m1 h1 hi h3
    · have b := k_xTick (endE self t now s) (now + i) (endE_ok ht0)
      rw [e] at b
      dsimp only [reaO, reaH, endE, List.cons_append, List.nil_append] at b
      repeat' (first | ((with_reducible apply Need.mk); (focus (exact clean_rea _ _ _ _ _ _ _ _ _ _ _)); (conv => whnf)) | ((first | ((with_reducible apply Nm.mk); focus ((try simp only [lns]); exact rfl)) | ((with_reducible apply Wr.i64); focus omega) | ((with_reducible apply Need.mk); focus (simp only [lns]; omega)) | (apply CallN.mk (b)) | (with_reducible apply Bif.F) | ((with_reducible first | apply Bif.dec | apply Bif.beq | apply Bif.bne) <;> intro h <;> (try simp only [lns] at h) <;> (try (exfalso; omega))) | (with_reducible apply GiveN.lend)) <;> conv => whnf) | fail)
      (refine ⟨⟨i + 1, s', by omega, by omega, by omega⟩, ?_⟩; (try dsimp only); conv => whnf); repeat' (first | with_reducible apply True.intro | ((with_reducible apply Turn.r); (conv => whnf)) | ((first | ((with_reducible apply Need.mk); focus omega) | (with_reducible apply Same.rfl) | (apply Same.int; focus first | rfl | omega) | (with_reducible apply Cut.l)) <;> conv => whnf) | fail)
    · have b := k_xTick (endE self t now s) (now + i) (endE_ok ht0)
      rw [e] at b
      have g2 : (gt [endM self t (endN s')] 0).msg.num = endN s' := rfl
      dsimp only [reaO, reaH, endE, List.cons_append, List.nil_append] at b
      repeat' (first | ((with_reducible apply Need.mk); (focus (exact clean_rea _ _ _ _ _ _ _ _ _ _ _)); (conv => whnf)) | ((first | ((with_reducible apply Nm.mk); focus ((try simp only [lns]); exact rfl)) | ((with_reducible apply Wr.i64); focus omega) | ((with_reducible apply Need.mk); focus (simp only [lns]; omega)) | ((with_reducible apply Elem.lst); focus (simp only [lns]; omega)) | (apply CallN.mk (b)) | (with_reducible first | apply Bif.T | apply Bif.F) | ((with_reducible first | apply Bif.dec | apply Bif.beq | apply Bif.bne) <;> intro h <;> (try simp only [lns] at h) <;> (try (exfalso; omega))) | (with_reducible apply GiveN.lend)) <;> conv => whnf) | fail)
      (refine ⟨⟨i + 1, s', by omega, by omega, by omega⟩, ?_⟩; (try dsimp only); conv => whnf); repeat' (first | with_reducible apply True.intro | ((with_reducible apply Turn.r); (conv => whnf)) | ((first | ((with_reducible apply Need.mk); focus omega) | (with_reducible apply Same.rfl) | (apply Same.int; focus first | rfl | omega) | (with_reducible apply Cut.l)) <;> conv => whnf) | fail)
  · have h5 : s = 3 := by omega
    subst h5
    have g3 : endD t now 3 = [] := rfl
    have g4 : endN 3 = 3 := rfl
    rw [g3, g4]
    repeat' (first | with_reducible apply True.intro | ((first | (apply CallN.mk (k_known)) | (with_reducible apply Bif.T) | ((with_reducible first | apply Bif.dec | apply Bif.beq) <;> intro h <;> (try simp only [lns] at h) <;> (try (exfalso; omega))) | (with_reducible apply Same.rfl)) <;> conv => whnf) | fail)
/-! ### Breaks -/
theorem w16_step {q : Int} (hq : 0 ≤ q ∧ q ≤ 65535) : newer q (w16 (q + 1)) = false ∧ q ≠ w16 (q + 1) ∧ newer (w16 (q + 2)) (w16 (q + 1)) = true ∧ newer (w16 (q + 1)) q = true := by
  have e1 : w16 (q + 1) = (q + 1) % 65536 := by unfold w16; simp [IntKind.wrap, IntKind.bits, IntKind.signed]
  have e2 : w16 (q + 2) = (q + 2) % 65536 := by unfold w16; simp [IntKind.wrap, IntKind.bits, IntKind.signed]
  have h4 : newer (w16 (q + 1)) q = true := by rw [newer_iff, e1]; omega
  exact ⟨newer_asym h4, by rw [e1]; omega, by rw [newer_iff, e1, e2]; omega, h4⟩
theorem k_ReactiveBreaks (t : List Int) (q metric : Int) (hq : 0 ≤ q ∧ q ≤ 65535) : Con Try.prog 6 [.fs .no 1 (ints t), .v (.int .u16 q), int metric] [] (bool true) [] := by
  have ht : (t.take 400).length ≤ 400 := by simp; omega
  generalize hT : t.take 400 = l at ht
  have hN := k_made_New t
  rw [hT] at hN
  have m1 := modV_range (v := metric) (n := 1000) (by omega)
  have cM := k_made_Mod metric 1000 (by omega)
  generalize modV metric 1000 = M at *
  refine spec_of_run ttok mixed (T0 := 83076749736557242056487947690506183) (ts := [.tmp 6]) 160 rfl rfl rfl rfl (by simp) rfl ?_
  conv => whnf
  repeat' (first | ((first | ((with_reducible apply Nm.mk); focus ((try simp only [lns]); exact rfl)) | ((with_reducible apply Need.mk); focus first | omega | (simp only [lns]; omega)) | (apply CallN.mk (hN)) | (apply CallN.mk (cM)) | (refine CallN.ex (k_world_Base l _ (by omega) ht) ?_; rintro _ _ ⟨b, k1, rfl, rfl, b1, b2, b3⟩) | (apply CallN.mk (k_xStart _)) | (with_reducible apply GiveN.lend)) <;> conv => whnf) | fail)
  have hn := tmod_range b b1
  generalize b.tmod 1000 = now at hn ⊢
  obtain ⟨w1, w2, w3, w4⟩ := w16_step hq
  have hM : 0 ≤ M ∧ M ≤ 999 := by omega
  have cA := k_xHear (startM 1) now 2 256 (rp9 q M) (startM_ok 1) ⟨by show (0 : Int) ≤ 1; omega, by show (0 : Int) ≤ 9; omega⟩
  rw [hear9_new hM hn] at cA
  have h9 : ∀ nb q m b u, ReaOK (oneP 1 (p9 nb q m b u)) := fun nb q m b u => oneP_ok (by show (0 : Int) ≤ 9; omega)
  have cB := k_xLost (oneP 1 (p9 2 q (M + 256) false (now + 20))) now 2 (h9 _ _ _ _ _)
  rw [lost9 hn (by omega)] at cB
  have cG := k_xNext (oneP 1 (p9 2 (w16 (q + 1)) (M + 256) true (now + 20))) now 9 (h9 _ _ _ _ _)
  rw [next9 (by omega) (by omega) ⟨by omega, by omega⟩ ⟨by omega, by omega⟩ (by omega), if_pos rfl] at cG
  have cC := k_xHear (oneP 1 (p9 2 (w16 (q + 1)) (M + 256) true (now + 20))) now 3 1 (rp9 q M) (h9 _ _ _ _ _) ⟨by show (0 : Int) ≤ 1; omega, by show (0 : Int) ≤ 9; omega⟩
  rw [hear9_old hM hn ⟨w1, w2⟩ (by omega)] at cC
  have cD := k_xHear (oneP 1 (p9 2 (w16 (q + 1)) (M + 256) true (now + 20))) now 3 1 (rp9 (w16 (q + 2)) M) (h9 _ _ _ _ _) ⟨by show (0 : Int) ≤ 1; omega, by show (0 : Int) ≤ 9; omega⟩
  rw [hear9_newer hM hn w3 (by omega)] at cD
  have cJ := k_xNext (oneP 1 (p9 3 (w16 (q + 2)) (M + 1) false (now + 20))) now 9 (h9 _ _ _ _ _)
  rw [next9 (by omega) (by omega) ⟨by omega, by omega⟩ ⟨by omega, by omega⟩ (by omega), if_neg (by simp)] at cJ
  have cU := k_xHear (oneP 1 (p9 2 q (M + 256) false (now + 20))) now 2 256 (er9 (w16 (q + 1))) (h9 _ _ _ _ _) ⟨by show (0 : Int) ≤ 0; omega, by show (0 : Int) ≤ 9; omega⟩
  rw [err9 hn (by omega) w4] at cU
  dsimp only [reaO, reaF, reaH, oneP, startM, List.cons_append, List.nil_append] at cA cB cG cC cD cJ cU
  repeat' (first | with_reducible apply True.intro | ((with_reducible apply Wr.eq (show IntKind.wrap .u16 (q + 2) = w16 (q + 2) from rfl)); (conv => whnf)) | ((with_reducible apply Need.mk); (focus (exact clean_rea _ _ _ _ _ _ _ _ _ _ _)); (conv => whnf)) | ((first | ((with_reducible apply Nm.mk); focus ((try simp only [lns]); exact rfl)) | ((with_reducible apply Need.mk); focus first | (simp only [lns]; omega) | exact CleanP.nil rfl | kernel_rfl) | ((with_reducible apply Elem.lst); focus (simp only [lns]; omega)) | (apply CallN.mk (cA)) | (apply CallN.mk (cB)) | (apply CallN.mk (cG)) | (apply CallN.mk (cC)) | (apply CallN.mk (cD)) | (apply CallN.mk (cJ)) | (apply CallN.mk (cU)) | (apply CallN.mk (k_known)) | (with_reducible first | apply Bif.T | apply Bif.F) | ((with_reducible first | apply Bif.beq | apply Bif.bne) <;> intro h <;> (try simp only [lns] at h) <;> (try (exfalso; omega))) | (with_reducible apply Same.rfl) | (with_reducible apply GiveN.lend)) <;> conv => whnf) | fail)
end Go.Fw
