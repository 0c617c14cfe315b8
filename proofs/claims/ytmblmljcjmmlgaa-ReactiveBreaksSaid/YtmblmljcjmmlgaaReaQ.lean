/- ReactiveActs: the walk. -/
import Derived.Test.YtmblmljcjmmlgaaReaU
namespace Go.Fw
open Go.Proofs
set_option maxHeartbeats 16000000
set_option maxRecDepth 4000
/-- A state that comes in. -/
structure ReaR (r : Rea) : Prop where
  p : ∀ x ∈ r.paths, 0 ≤ x.to
  d : ∀ x ∈ r.srch, 0 ≤ x.to
  s : ∀ x ∈ r.seen, 0 ≤ x.to
  lp : r.paths.length ≤ 9223372036854775807
  ld : r.srch.length ≤ 9223372036854775807
  ls : r.seen.length ≤ 9223372036854775807
theorem ReaR.ok {r : Rea} (h : ReaR r) (hs : r.paths.length ≤ 70 ∧ r.srch.length ≤ 70 ∧ r.seen.length ≤ 70) : ReaOK r := ⟨h.p, h.d, h.s, by omega, by omega, by omega⟩
theorem k_ReactiveActs (raw : Rea) (t : List Int) (now n : Int) (hr : ReaR raw) (hn : 0 ≤ n) :
    Con Try.prog 8 [reaF raw, .fs .no 1 (ints t), int now, .v (.int .u64 n)] [] (bool true) [] := by
  have ht : (t.take 400).length ≤ 400 := by simp; omega
  generalize hT : t.take 400 = l at ht
  have hN := k_made_New t
  rw [hT] at hN
  have cS := k_small raw ⟨hr.lp, hr.ld, hr.ls⟩
  refine spec_of_run ttok mixed (T0 := 68753071903) (ts := [.tmp 8]) 65 rfl rfl rfl rfl (by simp) rfl ?_
  conv => whnf
  by_cases hsm : raw.paths.length ≤ 70 ∧ raw.srch.length ≤ 70 ∧ raw.seen.length ≤ 70
  · rw [decide_eq_true hsm] at cS
    have hO := hr.ok hsm

    repeat' (first | ((first | (apply CallN.mk (cS)) | (apply CallN.mk (hN)) | (refine CallN.ex (k_world_Base l _ (by omega) ht) ?_; rintro _ _ ⟨b, k1, rfl, rfl, b1, b2, b3⟩) | (refine CallN.ex (k_world_Reactive l _ b (by omega) ht (by omega)) ?_; rintro _ _ ⟨R, k2, rfl, rfl, c1, c2, c3⟩) | (with_reducible apply Bif.T) | (with_reducible apply Bif.not)) <;> conv => whnf) | fail)
    refine loop_keep ttok mixed (T0 := 68753071903) [2, 3, 10] (ι := {p : Nat × Int // p.1 ≤ 3 ∧ 0 ≤ p.2})
      (fun p => [(12, int (p.1.1 : Int)), (4, .pb 0 []), (9, .pb 1 []), (11, .pb 5 [])]) (fun p => [.cells (reaF raw), .cells (tape l p.1.2), .arr none 6 (lst pthV R.paths), .arr none 3 (lst dscV R.srch), .arr none 6 (lst pthV R.seen), .cells (reaO R 2 3 4)]) (fun p => 3 - p.1.1) ⟨(0, k2), by simp, c3⟩ ?_
    conv => whnf
    repeat' (first | ((first | (with_reducible apply Same.rfl) | (apply Same.int; focus rfl)) <;> conv => whnf) | fail)
    rintro ⟨⟨i, k⟩, hi, hk⟩
    dsimp only at hi hk ⊢
    have aR := fun tm t h => k_acts R tm t c1.ok h
    conv => whnf
    by_cases hi2 : i < 3
    · repeat' (first | ((first | ((with_reducible apply Nm.mk); focus ((try simp only [lns]); exact rfl)) | ((with_reducible first | apply Wr.i64 | apply Wr.u64); focus omega) | ((with_reducible apply Need.mk); focus first | (simp only [lns]; omega) | exact CleanP.nil rfl | kernel_rfl) | (refine CallN.ex (k_world_Time l _ b (by omega) ht (by omega)) ?_; rintro _ _ ⟨tm, k3, rfl, rfl, d1, d2, d3⟩) | (refine CallN.ex (k_tape_Next l _ _ (by omega) ht (by omega)) ?_; rintro _ _ ⟨w, k4, rfl, rfl, e1, e2, e3⟩) | (apply CallN.mk (aR _ _ (by omega))) | (with_reducible apply Bif.T) | ((with_reducible apply Bif.dec) <;> intro h <;> (try simp only [lns] at h) <;> (try (exfalso; omega))) | (with_reducible apply Bif.not) | (with_reducible apply GiveN.lend)) <;> conv => whnf) | fail)
      all_goals ((refine ⟨⟨(i + 1, k4), by dsimp only; omega, by dsimp only; omega⟩, ?_⟩; (try dsimp only); conv => whnf); repeat' (first | with_reducible apply True.intro | ((first | ((with_reducible apply Need.mk); focus omega) | (with_reducible apply Same.rfl) | (apply Same.int; focus rfl) | (with_reducible apply Turn.l)) <;> conv => whnf) | fail))
    · have f1 := k_xStart n
      have f2 := k_yStart n
      have f3 := k_SameReactive (startM n) (startM_ok n)
      have aW := fun tm t h => k_acts raw tm t hO h
      repeat' (first | with_reducible apply True.intro | ((with_reducible apply GiveN.keep [1]); (conv => whnf); (refine CallKN.ex (k_spoiled l _ R (by omega) ht c1 c2) ?_); (rintro _ _ ⟨X, k7, rfl, rfl, hX, j2⟩); (conv => whnf)) | ((first | ((with_reducible apply Nm.mk); focus ((try simp only [lns]); exact rfl)) | ((with_reducible apply Need.mk); focus first | (simp only [lns]; omega) | exact CleanP.nil rfl) | (apply CallN.mk (k_known)) | (apply CallN.mk (f1)) | (apply CallN.mk (f2)) | (apply CallN.mk (f3)) | (apply CallN.mk (aW _ _ (by omega))) | (apply CallN.mk (aR _ _ (by omega))) | (apply CallN.mk (k_acts _ _ _ hX (by omega))) | (with_reducible apply Bif.T) | ((with_reducible apply Bif.dec) <;> intro h <;> (try simp only [lns] at h) <;> (try (exfalso; omega))) | (with_reducible apply Same.rfl) | (with_reducible apply GiveN.lend)) <;> conv => whnf) | fail)
  · rw [decide_eq_false hsm] at cS
    repeat' (first | with_reducible apply True.intro | ((first | (apply CallN.mk (cS)) | (apply CallN.mk (k_known)) | (with_reducible apply Bif.F) | (with_reducible apply Bif.not) | (with_reducible apply Same.rfl)) <;> conv => whnf) | fail)
theorem msgOK2 {a o t n k c h : Int} {f : Bool} (h1 : 0 ≤ o) (h2 : 0 ≤ t) : MsgOK ⟨a, o, t, n, k, f, c, h⟩ := ⟨h1, h2⟩
theorem k_hearsM (r : Rea) (hr : ReaOK r) (tm nb co a o t n k : Int) (f : Bool) (c h : Int) (h1 : 0 ≤ o) (h2 : 0 ≤ t) :
    Con Try.prog 22 [reaF r, int tm, .v (.int .u64 nb), int co, .agg [.v (.int .i64 a), .v (.int .u64 o), .v (.int .u64 t), .v (.int .u16 n), .v (.int .u16 k), .v (.bool f), .v (.int .i64 c), .v (.int .i64 h)]] [] (bool true) [] :=
  k_hears r tm nb co ⟨a, o, t, n, k, f, c, h⟩ hr (msgOK2 h1 h2)
theorem k_ReactiveHears (raw : Rea) (t : List Int) (now fr co : Int) (m : Msg) (hr : ReaR raw) (hm : MsgOK m) :
    Con Try.prog 4 [reaF raw, .fs .no 1 (ints t), int now, .v (.int .u64 fr), int co, msgV m] [] (bool true) [] := by
  have ht : (t.take 400).length ≤ 400 := by simp; omega
  generalize hT : t.take 400 = l at ht
  have hN := k_made_New t
  rw [hT] at hN
  have cS := k_small raw ⟨hr.lp, hr.ld, hr.ls⟩
  refine spec_of_run ttok mixed (T0 := 605136371340261924796543) (ts := [.tmp 12]) 105 rfl rfl rfl rfl (by simp) rfl ?_
  conv => whnf
  by_cases hsm : raw.paths.length ≤ 70 ∧ raw.srch.length ≤ 70 ∧ raw.seen.length ≤ 70
  · rw [decide_eq_true hsm] at cS
    have hO := hr.ok hsm
    repeat' (first | ((first | (apply CallN.mk (cS)) | (apply CallN.mk (hN)) | (refine CallN.ex (k_world_Base l _ (by omega) ht) ?_; rintro _ _ ⟨b, k1, rfl, rfl, b1, b2, b3⟩) | (refine CallN.ex (k_world_Reactive l _ b (by omega) ht (by omega)) ?_; rintro _ _ ⟨R, k2, rfl, rfl, c1, c2, c3⟩) | (with_reducible apply Bif.T) | (with_reducible apply Bif.not)) <;> conv => whnf) | fail)
    refine loop_keep ttok mixed (T0 := 605136371340261924796543) [2, 3, 4, 14] (ι := {p : Nat × Int // p.1 ≤ 5 ∧ 0 ≤ p.2})
      (fun p => [(16, int (p.1.1 : Int)), (6, .pb 0 []), (11, .pb 1 []), (13, .pb 2 []), (15, .pb 6 [])]) (fun p => [.cells (reaF raw), .cells (msgV m), .cells (tape l p.1.2), .arr none 6 (lst pthV R.paths), .arr none 3 (lst dscV R.srch), .arr none 6 (lst pthV R.seen), .cells (reaO R 3 4 5)]) (fun p => 5 - p.1.1) ⟨(0, k2), by simp, c3⟩ ?_
    conv => whnf
    repeat' (first | ((first | (with_reducible apply Same.rfl) | (apply Same.int; focus rfl)) <;> conv => whnf) | fail)
    rintro ⟨⟨i, k⟩, hi, hk⟩
    dsimp only at hi hk ⊢
    have aR := fun tm nb co m h => k_hears R tm nb co m c1.ok h
    have aM := k_hearsM R c1.ok
    conv => whnf
    by_cases hi2 : i < 5
    · repeat' (first | ((first | ((with_reducible apply Nm.mk); focus ((try simp only [lns]); exact rfl)) | ((with_reducible first | apply Wr.i64 | apply Wr.u64); focus omega) | ((with_reducible apply Need.mk); focus first | (simp only [lns]; omega) | exact CleanP.nil rfl | kernel_rfl) | (refine CallN.ex (k_world_PathMessage l _ (by omega) ht) ?_; rintro _ _ ⟨x, km, rfl, rfl, m1, ⟨m2, m2'⟩, m3, m4, m5, m6⟩) | (refine CallN.ex (k_tape_Bool l _ _ (by omega) ht (by omega)) ?_; rintro _ _ ⟨bb, kb, rfl, rfl, bb3⟩) | (refine CallN.ex (k_world_Time l _ b (by omega) ht (by omega)) ?_; rintro _ _ ⟨tm, k3, rfl, rfl, d1, d2, d3⟩) | (refine CallN.ex (k_world_EUI l _ (by omega) ht) ?_; rintro _ _ ⟨eu, k5, rfl, rfl, g1, g2, g3⟩) | (refine CallN.ex (k_world_Cost l _ (by omega) ht) ?_; rintro _ _ ⟨cc, kc, rfl, rfl, j1, j2, j3⟩) | (refine CallN.ex (k_tape_Next l _ _ (by omega) ht (by omega)) ?_; rintro _ _ ⟨w, k4, rfl, rfl, e1, e2, e3⟩) | (apply CallN.mk (aM _ _ _ _ _ _ _ _ _ _ _ (by omega) (by omega))) | (with_reducible apply Bif.T) | ((with_reducible first | apply Bif.dec | apply Bif.beq) <;> intro h <;> (try simp only [lns] at h) <;> (try (exfalso; omega))) | (with_reducible apply Bif.not) | ((with_reducible apply Bif.mk) <;> intro h) | (with_reducible apply GiveN.lend)) <;> conv => whnf) | fail)
      all_goals ((refine ⟨⟨(i + 1, _), by dsimp only; omega, by dsimp only; omega⟩, ?_⟩; (try dsimp only); conv => whnf); repeat' (first | with_reducible apply True.intro | ((first | ((with_reducible apply Need.mk); focus omega) | (with_reducible apply Same.rfl) | (apply Same.int; focus rfl) | (with_reducible apply Turn.l)) <;> conv => whnf) | fail))
    · have aW := fun tm nb co m h => k_hears raw tm nb co m hO h
      repeat' (first | with_reducible apply True.intro | ((with_reducible apply GiveN.keep [1]); (conv => whnf); (refine CallKN.ex (k_spoiled l _ R (by omega) ht c1 c2) ?_); (rintro _ _ ⟨X, k7, rfl, rfl, hX, j2⟩); (conv => whnf)) | ((first | ((with_reducible apply Nm.mk); focus ((try simp only [lns]); exact rfl)) | ((with_reducible apply Need.mk); focus first | (simp only [lns]; omega) | exact CleanP.nil rfl | kernel_rfl) | (apply CallN.mk (k_known)) | (apply CallN.mk (aW _ _ _ _ hm)) | (apply CallN.mk (aR _ _ _ _ hm)) | (apply CallN.mk (k_hears _ _ _ _ _ hX hm)) | (with_reducible apply Bif.T) | ((with_reducible apply Bif.dec) <;> intro h <;> (try simp only [lns] at h) <;> (try (exfalso; omega))) | (with_reducible apply Same.rfl) | (with_reducible apply GiveN.lend)) <;> conv => whnf) | fail)
  · rw [decide_eq_false hsm] at cS
    repeat' (first | with_reducible apply True.intro | ((first | (apply CallN.mk (cS)) | (apply CallN.mk (k_known)) | (with_reducible apply Bif.F) | (with_reducible apply Bif.not) | (with_reducible apply Same.rfl)) <;> conv => whnf) | fail)
end Go.Fw
