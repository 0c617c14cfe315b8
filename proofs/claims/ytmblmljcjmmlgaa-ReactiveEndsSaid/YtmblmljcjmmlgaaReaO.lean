/- Reactive: what the makers make. -/
import Derived.Test.YtmblmljcjmmlgaaReaN
namespace Go.Fw
open Go.Proofs
set_option maxHeartbeats 8000000
set_option maxRecDepth 4000
theorem k_world_PathMessage (l : List Int) (k : Int) (hk : 0 ≤ k) (hl : l.length ≤ 400) :
    ∃ r hp', (∃ (m : Msg) (k' : Int), r = msgV m ∧ hp' = [.cells (tape l k')] ∧ vMsg m = true ∧ MsgOK m ∧ nearS m.num ∧ m.to ≤ 5 ∧ m.org ≤ 5 ∧ 0 ≤ k') ∧ Con Try.prog 15 [.pb 0 []] [.cells (tape l k)] r hp' := by
  refine spec_of_runR ttok mixed (T0 := 1073872909) (ts := [.cell 2 41]) 36 rfl rfl rfl rfl (by simp) rfl ?_
  conv => whnf
  repeat' (first | ((first | ((with_reducible apply Wr.i64); focus omega) | (refine CallN.ex (k_tape_Next l _ _ (by omega) hl (by omega)) ?_; rintro _ _ ⟨x, k', rfl, rfl, h1, h2, h3⟩) | (refine CallN.ex (k_world_EUI l _ (by omega) hl) ?_; rintro _ _ ⟨eu, k5, rfl, rfl, e1, e2, e3⟩) | (refine CallN.ex (k_world_Seq l _ (by omega) hl) ?_; rintro _ _ ⟨sq, kg, rfl, rfl, i1, i2⟩) | (refine CallN.ex (k_world_Cost l _ (by omega) hl) ?_; rintro _ _ ⟨co, kc, rfl, rfl, j1, j2, j3⟩) | (refine CallN.ex (k_tape_Bool l _ _ (by omega) hl (by omega)) ?_; rintro _ _ ⟨b, kb, rfl, rfl, b3⟩) | (with_reducible first | apply Bif.T | apply Bif.F) | ((with_reducible first | apply Bif.beq | apply Bif.bne) <;> intro h <;> (try simp only [lns] at h) <;> (try (exfalso; omega))) | ((with_reducible apply Bif.mk) <;> intro h)) <;> conv => whnf) | fail)
  all_goals ((apply Ex2.mk (msgV ⟨_, _, _, _, _, _, _, _⟩) ([.cells (tape l _)])); (focus ((conv => whnf); repeat' (first | with_reducible apply True.intro | ((first | (with_reducible apply Same.rfl) | (apply Same.int; focus rfl)) <;> conv => whnf) | fail))); exact ⟨_, _, rfl, rfl, vMsg_iff.2 (by simp [okM] <;> omega), ⟨by simp <;> omega, by simp <;> omega⟩, by assumption, by simp <;> omega, by simp <;> omega, by omega⟩)
theorem seekM_self (r : Rea) (now t : Int) : (seekM r now t).1.self = r.self ∨ (seekM r now t).1 = rea0 := by
  unfold seekM
  repeat' split
  all_goals first | exact .inl rfl | exact .inr rfl
theorem lostM_self (r : Rea) (now t : Int) : (lostM r now t).1.self = r.self ∨ (lostM r now t).1 = rea0 := by
  unfold lostM
  repeat' split
  all_goals first | exact .inl rfl | exact .inr rfl
theorem hReq_self (r : Rea) (now nb : Int) (d : Dis) (m : Msg) : (hReq r now nb d m).1.self = r.self := by
  unfold hReq
  repeat' split
  all_goals first | rfl | exact offM_self.trans seeM_self
theorem hRep_self (r : Rea) (now nb : Int) (d : Dis) (m : Msg) : (hRep r now nb d m).1.self = r.self := by
  unfold hRep
  repeat' split
  all_goals first | rfl | exact offM_self
theorem hErr_self (r : Rea) (now nb : Int) (m : Msg) : (hErr r now nb m).1.self = r.self := by
  unfold hErr
  repeat' split
  all_goals rfl
theorem hearM_self (r : Rea) (now nb cost : Int) (m : Msg) : (hearM r now nb cost m).1.self = r.self ∨ (hearM r now nb cost m).1 = rea0 := by
  unfold hearM
  repeat' split
  all_goals first | exact .inl rfl | exact .inr rfl | exact .inl (hErr_self _ _ _ _) | exact .inl (hReq_self _ _ _ _ _) | exact .inl (hRep_self _ _ _ _ _)
theorem self0 {x r : Rea} (h : x.self = r.self ∨ x = rea0) (h0 : 0 ≤ r.self) : 0 ≤ x.self := by
  rcases h with h | h
  · omega
  · rw [h]; exact Int.le_refl _
theorem startM_ok (s : Int) : ReaOK (startM s) := ⟨fun x h => (by cases h), fun x h => (by cases h), fun x h => (by cases h), by simp [startM], by simp [startM], by simp [startM]⟩
theorem startV {s n : Int} (h : s ≠ 0) : validX ⟨s, n, [], [], []⟩ = true := validX_iff.2 ⟨h, okL_iff_pw.2 ⟨by simp, fun x h => (by cases h), .nil⟩, okL_iff_pw.2 ⟨by simp, fun x h => (by cases h), .nil⟩, okL_iff_pw.2 ⟨by simp, fun x h => (by cases h), .nil⟩⟩
/-- A state that is under way. -/
structure ReaI where
  R : Rea
  k : Int
  a : Int
  ha : 0 ≤ a
  hm : k ≤ 9
  ok : ReaV R
  s0 : 0 ≤ R.self
theorem k_world_Reactive (l : List Int) (at_ now : Int) (hk : 0 ≤ at_) (hl : l.length ≤ 400) (hb : 0 ≤ now ∧ now ≤ 1099511627776) :
    ∃ r hp', (∃ (x : Rea) (k' : Int), r = reaO x 1 2 3 ∧ hp' = .cells (tape l k') :: reaH x ∧ ReaV x ∧ 0 ≤ x.self ∧ 0 ≤ k') ∧ Con Try.prog 20 [.pb 0 [], int now] [.cells (tape l at_)] r hp' := by
  refine spec_of_runR ttok mixed (T0 := 36902499744855098355) (ts := [.cell 4 32]) 68 rfl rfl rfl rfl (by simp) rfl ?_
  conv => whnf
  repeat' (first | ((first | (refine CallN.ex (k_tape_Next l _ _ (by omega) hl (by omega)) ?_; rintro _ _ ⟨x, k', rfl, rfl, h1, h2, h3⟩) | (refine CallN.ex (k_world_EUI l _ (by omega) hl) ?_; rintro _ _ ⟨eu, k5, rfl, rfl, e1, e2, e3⟩) | (refine CallN.ex (k_world_Seq l _ (by omega) hl) ?_; rintro _ _ ⟨sq, kg, rfl, rfl, i1, i2⟩) | (apply CallN.mk (k_yStart _))) <;> conv => whnf) | fail)
  refine LoopN.turn [1] [(0, .pb 0 []), (4, .pb 1 []), (5, .pb 2 []), (6, int x)] (.cells (tape l k') :: .cells (.agg [.v (.int .u64 0), .v (.int .u16 0), .v (.slice none 0 0), .v (.slice none 0 0), .v (.slice none 0 0)]) :: .cells (reaO ⟨eu, sq, [], [], []⟩ 3 4 5) :: reaH ⟨eu, sq, [], [], []⟩) ?_
  conv => whnf
  repeat' (first | ((first | (with_reducible apply Same.rfl) | (apply Same.int; focus rfl) | (apply Same.rfl) | (with_reducible apply Cut.l)) <;> conv => whnf) | fail)
  refine loop_keep ttok mixed (T0 := 36902499744855098355) [1] (ι := ReaI)
    (fun p => [(0, .pb 0 []), (4, .pb 1 []), (5, .pb 2 []), (6, int p.k)]) (fun p => .cells (tape l p.a) :: .cells (.agg [.v (.int .u64 0), .v (.int .u16 0), .v (.slice none 0 0), .v (.slice none 0 0), .v (.slice none 0 0)]) :: .cells (reaO p.R 3 4 5) :: reaH p.R) (fun p => p.k.toNat) ⟨⟨eu, sq, [], [], []⟩, x, k', h3, by omega, ⟨fun x h => (by cases h), fun x h => (by cases h), fun x h => (by cases h), startV (show eu ≠ 0 by omega)⟩, by show 0 ≤ eu; omega⟩ ?_
  conv => whnf
  repeat' (first | ((with_reducible apply Same.rfl) <;> conv => whnf) | fail)
  rintro ⟨R, k, a, ha, hm, hok, s0⟩
  dsimp only
  conv => whnf
  by_cases hk1 : k > 0
  · have b1 := fun t tm (h : 0 ≤ t) => k_ySeek R tm t hok.ok h
    have b2 := fun t tm => k_yLost R tm t hok.ok
    have b3 := fun nb tm co m (h : MsgOK m) => k_yHear R tm nb co m hok.ok h
    repeat' (first | ((with_reducible apply Need.mk); (focus (exact clean_rea _ _ _ _ _ _ _ _ _ _ _)); (conv => whnf)) | ((first | ((with_reducible apply Nm.mk); focus ((try simp only [lns]); exact rfl)) | ((with_reducible apply Wr.i64); focus omega) | ((with_reducible apply Need.mk); focus first | (simp only [lns]; omega) | kernel_rfl) | (refine CallN.ex (k_tape_Next l _ _ (by omega) hl (by omega)) ?_; rintro _ _ ⟨w, kd, rfl, rfl, e1, e2, e3⟩) | (refine CallN.ex (k_world_Time l _ now (by omega) hl hb) ?_; rintro _ _ ⟨tm, ke, rfl, rfl, f1, f2, f3⟩) | (refine CallN.ex (k_world_EUI l _ (by omega) hl) ?_; rintro _ _ ⟨eu, k5, rfl, rfl, g1, g2, g3⟩) | (refine CallN.ex (k_world_Cost l _ (by omega) hl) ?_; rintro _ _ ⟨co, kc, rfl, rfl, j1, j2, j3⟩) | (refine CallN.ex (k_world_PathMessage l _ (by omega) hl) ?_; rintro _ _ ⟨m, km, rfl, rfl, m1, m2, m3, m4, m5, m6⟩) | (apply CallN.mk (b1 _ _ (by omega))) | (apply CallN.mk (b2 _ _)) | (apply CallN.mk (b3 _ _ _ _ m2)) | ((with_reducible first | apply Bif.dec | apply Bif.beq) <;> intro h <;> (try simp only [lns] at h) <;> (try (exfalso; omega))) | (with_reducible apply GiveN.lend)) <;> conv => whnf) | fail)
    · (refine ⟨⟨(seekM R tm eu).1, k - 1, _, by assumption, by omega, seekM_rv hok.ok (by omega) h, self0 (seekM_self R tm eu) s0⟩, ?_⟩; (try dsimp only); conv => whnf); repeat' (first | with_reducible apply True.intro | ((with_reducible apply Turn.r); (conv => whnf)) | ((first | ((with_reducible apply Need.mk); focus omega) | (with_reducible apply Same.rfl) | (apply Same.int; focus rfl) | (with_reducible apply Cut.l)) <;> conv => whnf) | fail)
    · (refine ⟨⟨R, k - 1, _, by assumption, by omega, hok, s0⟩, ?_⟩; (try dsimp only); conv => whnf); repeat' (first | with_reducible apply True.intro | ((with_reducible apply Turn.r); (conv => whnf)) | ((first | ((with_reducible apply Need.mk); focus omega) | (with_reducible apply Same.rfl) | (apply Same.int; focus rfl) | (with_reducible apply Cut.l)) <;> conv => whnf) | fail)
    · (refine ⟨⟨(lostM R tm eu).1, k - 1, _, by assumption, by omega, lostM_rv hok.ok h, self0 (lostM_self R tm eu) s0⟩, ?_⟩; (try dsimp only); conv => whnf); repeat' (first | with_reducible apply True.intro | ((with_reducible apply Turn.r); (conv => whnf)) | ((first | ((with_reducible apply Need.mk); focus omega) | (with_reducible apply Same.rfl) | (apply Same.int; focus rfl) | (with_reducible apply Cut.l)) <;> conv => whnf) | fail)
    · (refine ⟨⟨R, k - 1, _, by assumption, by omega, hok, s0⟩, ?_⟩; (try dsimp only); conv => whnf); repeat' (first | with_reducible apply True.intro | ((with_reducible apply Turn.r); (conv => whnf)) | ((first | ((with_reducible apply Need.mk); focus omega) | (with_reducible apply Same.rfl) | (apply Same.int; focus rfl) | (with_reducible apply Cut.l)) <;> conv => whnf) | fail)
    · (refine ⟨⟨(hearM R tm eu (1 + co) m).1, k - 1, _, by assumption, by omega, hearM_rv hok.ok m2 h, self0 (hearM_self R tm eu (1 + co) m) s0⟩, ?_⟩; (try dsimp only); conv => whnf); repeat' (first | with_reducible apply True.intro | ((with_reducible apply Turn.r); (conv => whnf)) | ((first | ((with_reducible apply Need.mk); focus omega) | (with_reducible apply Same.rfl) | (apply Same.int; focus rfl) | (with_reducible apply Cut.l)) <;> conv => whnf) | fail)
    · (refine ⟨⟨R, k - 1, _, by assumption, by omega, hok, s0⟩, ?_⟩; (try dsimp only); conv => whnf); repeat' (first | with_reducible apply True.intro | ((with_reducible apply Turn.r); (conv => whnf)) | ((first | ((with_reducible apply Need.mk); focus omega) | (with_reducible apply Same.rfl) | (apply Same.int; focus rfl) | (with_reducible apply Cut.l)) <;> conv => whnf) | fail)
  · repeat' (first | (((with_reducible apply Bif.dec) <;> intro h <;> (try simp only [lns] at h) <;> (try (exfalso; omega))) <;> conv => whnf) | fail)
    (refine ⟨_, _, ⟨R, a, rfl, rfl, hok, s0, ha⟩, ?_⟩; conv => whnf); repeat' (first | with_reducible apply True.intro | ((first | (with_reducible apply Same.rfl) | (with_reducible apply Cut.l)) <;> conv => whnf) | fail)
end Go.Fw
