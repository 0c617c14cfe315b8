/- Reactive: what the laws compare. -/
import Derived.Test.YtmblmljcjmmlgaaSlSnd
namespace Go.Fw
open Go.Proofs
set_option maxHeartbeats 8000000
set_option maxRecDepth 4000
theorem rea0_ok : ReaOK rea0 := ⟨fun x h => (by cases h), fun x h => (by cases h), fun x h => (by cases h), by decide, by decide, by decide⟩
theorem hearM_cases (r : Rea) (now nb cost : Int) (m : Msg) : (hearM r now nb cost m).2.2 = 0 ∨ (hearM r now nb cost m).1 = rea0 := by
  unfold hearM
  repeat' split
  all_goals first | exact .inl rfl | exact .inr rfl
theorem seekM_cases (r : Rea) (now t : Int) : (seekM r now t).2.2 = 0 ∨ (seekM r now t).1 = rea0 := by
  unfold seekM
  repeat' split
  all_goals first | exact .inl rfl | exact .inr rfl
theorem lostM_cases (r : Rea) (now t : Int) : (lostM r now t).2.2 = 0 ∨ (lostM r now t).1 = rea0 := by
  unfold lostM
  repeat' split
  all_goals first | exact .inl rfl | exact .inr rfl
theorem tickM_cases (r : Rea) (now : Int) : (tickM r now).2.2 = 0 ∨ (tickM r now).1 = rea0 := by
  unfold tickM
  repeat' split
  all_goals first | exact .inl rfl | exact .inr rfl
theorem hearM_ok {r : Rea} {now nb cost : Int} {m : Msg} (h : ReaOK r) (hm : MsgOK m) : ReaOK (hearM r now nb cost m).1 := by
  rcases hearM_cases r now nb cost m with e | e
  · exact (hearM_rv h hm e).ok
  · rw [e]; exact rea0_ok
theorem seekM_ok {r : Rea} {now t : Int} (h : ReaOK r) (h0 : 0 ≤ t) : ReaOK (seekM r now t).1 := by
  rcases seekM_cases r now t with e | e
  · exact (seekM_rv h h0 e).ok
  · rw [e]; exact rea0_ok
theorem lostM_ok {r : Rea} {now t : Int} (h : ReaOK r) : ReaOK (lostM r now t).1 := by
  rcases lostM_cases r now t with e | e
  · exact (lostM_rv h e).ok
  · rw [e]; exact rea0_ok
theorem tickM_ok {r : Rea} {now : Int} (h : ReaOK r) : ReaOK (tickM r now).1 := by
  rcases tickM_cases r now with e | e
  · exact (tickM_rv h e).ok
  · rw [e]; exact rea0_ok
theorem hReq_len (r : Rea) (now nb : Int) (d : Dis) (m : Msg) : (hReq r now nb d m).2.length ≤ 1 := by
  unfold hReq
  repeat' split
  all_goals simp
theorem hRep_len (r : Rea) (now nb : Int) (d : Dis) (m : Msg) : (hRep r now nb d m).2.length ≤ 1 := by
  unfold hRep
  repeat' split
  all_goals simp
theorem hErr_len (r : Rea) (now nb : Int) (m : Msg) : (hErr r now nb m).2.length ≤ 1 := by
  unfold hErr
  repeat' split
  all_goals simp
theorem hearM_len (r : Rea) (now nb cost : Int) (m : Msg) : (hearM r now nb cost m).2.1.length ≤ 1 := by
  have h1 := hReq_len r now nb ⟨m.num, addC m.cost cost⟩ m
  have h2 := hRep_len r now nb ⟨m.num, addC m.cost cost⟩ m
  have h3 := hErr_len r now nb m
  unfold hearM
  repeat' split
  all_goals first | assumption | simp
theorem seekM_len (r : Rea) (now t : Int) : (seekM r now t).2.1.length ≤ 1 := by
  unfold seekM
  repeat' split
  all_goals simp
theorem lostM_len (r : Rea) (now nb : Int) (h : ReaOK r) : (lostM r now nb).2.1.length ≤ 1000000 := by
  have h1 := h.lp
  unfold lostM
  split
  · split
    · show ((r.paths.filter (hitP now nb)).map lostS).length ≤ _
      rw [List.length_map]
      exact Nat.le_trans (List.length_filter_le _ _) h1
    · simp
  · simp
theorem tickM_len (r : Rea) (now : Int) (h : ReaOK r) : (tickM r now).2.1.length ≤ 1000000 := by
  have h1 := h.ld
  have h2 := tickS_out r now r.srch.length
  unfold tickM
  split
  · split
    · show (tickS r now r.srch.length).out.length ≤ _
      omega
    · simp
  · simp
theorem cl_lst {α : Type} {f : α → SV} (g : ∀ a, cl (f a) = true) {x : Option Nat} {E : Nat} {l : List α} : cleanOB (.arr x E (lst f l)) := fun s hs => by
  obtain ⟨a, _, rfl⟩ := List.mem_map.1 hs
  exact g a
theorem clean_rea (s n : Int) (p q : List Pth) (u : List Dsc) (l : List Snd) (a b c d : Nat) (e : Int) : CleanP (.tup [.agg [.v (.int .u64 s), .v (.int .u16 n), .ov 6 0 0 a, .ov 3 1 0 b, .ov 6 2 0 c], .ov 9 3 0 d, int e]) [.arr none 6 (lst pthV p), .arr none 3 (lst dscV u), .arr none 6 (lst pthV q), .arr none 9 (lst sndV l)] :=
  ⟨rfl, fun ob ho => by
    simp only [List.mem_cons, List.not_mem_nil, or_false] at ho
    rcases ho with rfl | rfl | rfl | rfl
    · exact cl_lst fun _ => rfl
    · exact cl_lst fun _ => rfl
    · exact cl_lst fun _ => rfl
    · exact cl_lst fun _ => rfl⟩
theorem k_SameReactive (x : Rea) (h : ReaOK x) : Con Try.prog 35 [reaF x, reaF x] [] (bool true) [] := by
  have c1 := k_Equal_Pth x.paths x.paths .no .no h.lp
  have c2 := k_Equal_Dsc x.srch x.srch .no .no h.ld
  have c3 := k_Equal_Pth x.seen x.seen .no .no h.ls
  rw [decide_eq_true rfl] at c1 c2 c3
  refine spec_of_run ttok mixed (T0 := 31) (ts := [.tmp 4]) 38 rfl rfl rfl rfl (by simp) rfl ?_
  conv => whnf
  repeat' (first | with_reducible apply True.intro | ((first | (apply CallN.mk (c1)) | (apply CallN.mk (c2)) | (apply CallN.mk (c3)) | (with_reducible apply Bif.T) | ((with_reducible apply Bif.beq) <;> intro h <;> (try simp only [lns] at h) <;> (try (exfalso; omega))) | (with_reducible apply Same.rfl)) <;> conv => whnf) | fail)
theorem k_EqS (l : List Snd) (h : l.length ≤ 1000000) : Con Try.prog 51 [.fs .no 9 (lst sndV l), .fs .no 9 (lst sndV l)] [] (bool true) [] := by
  have := k_Equal_Snd l l .no .no h
  rwa [decide_eq_true rfl] at this
theorem k_acts (r : Rea) (now t : Int) (hr : ReaOK r) (h0 : 0 ≤ t) : Con Try.prog 34 [reaF r, int now, .v (.int .u64 t)] [] (bool true) [] := by
  have a1 := k_xNext r now t hr
  have a2 := k_yNext r now t hr
  generalize nextM r now t = q at *
  obtain ⟨n, e⟩ := q
  have a3 := k_xValid r hr
  have a4 := k_yValid r hr
  generalize validX r = v at *
  have b1 := k_xSeek r now t hr h0
  have b2 := k_ySeek r now t hr h0
  have b3 := seekM_ok (now := now) hr h0
  have b4 := fun e => (seekM_rv (now := now) hr h0 e).v
  have b5 := seekM_len r now t
  generalize seekM r now t = q at *
  obtain ⟨x1, l1, e1⟩ := q
  dsimp only at b1 b2 b3 b4 b5
  have b6 := k_SameReactive x1 b3
  have b7 := k_EqS l1 (by omega)
  have b8 := k_xValid x1 b3
  have d1 := k_xLost r now t hr
  have d2 := k_yLost r now t hr
  have d3 := lostM_ok (now := now) (t := t) hr
  have d4 := fun e => (lostM_rv (now := now) (nb := t) hr e).v
  have d5 := lostM_len r now t hr
  generalize lostM r now t = q at *
  obtain ⟨x2, l2, e2⟩ := q
  dsimp only at d1 d2 d3 d4 d5
  have d6 := k_SameReactive x2 d3
  have d7 := k_EqS l2 d5
  have d8 := k_xValid x2 d3
  have f1 := k_xTick r now hr
  have f2 := k_yTick r now hr
  have f3 := tickM_ok (now := now) hr
  have f4 := fun e => (tickM_rv (now := now) hr e).v
  have f5 := tickM_len r now hr
  generalize tickM r now = q at *
  obtain ⟨x3, l3, e3⟩ := q
  dsimp only at f1 f2 f3 f4 f5
  have f6 := k_SameReactive x3 f3
  have f7 := k_EqS l3 f5
  have f8 := k_xValid x3 f3
  generalize validX x1 = v1 at *
  generalize validX x2 = v2 at *
  generalize validX x3 = v3 at *
  dsimp only [reaO, reaH, reaF, List.cons_append, List.nil_append] at *
  refine spec_of_run ttok mixed (T0 := 42535295865155993559149529246933843919) (ts := [.tmp 6]) 161 rfl rfl rfl rfl (by simp) rfl ?_
  conv => whnf
  repeat' (first | with_reducible apply True.intro | ((with_reducible apply Same.mk); (focus (rw [f4 (by assumption)]; done)); (conv => whnf)) | ((first | ((with_reducible apply Nm.mk); focus ((try simp only [lns]); exact rfl)) | ((with_reducible apply Need.mk); focus first | (simp only [lns]; omega) | exact CleanP.nil rfl | kernel_rfl) | (apply CallN.mk (a1)) | (apply CallN.mk (a2)) | (apply CallN.mk (a3)) | (apply CallN.mk (a4)) | (apply CallN.mk (b1)) | (apply CallN.mk (b2)) | (apply CallN.mk (b6)) | (apply CallN.mk (b7)) | (apply CallN.mk (b8)) | (apply CallN.mk (d1)) | (apply CallN.mk (d2)) | (apply CallN.mk (d6)) | (apply CallN.mk (d7)) | (apply CallN.mk (d8)) | (apply CallN.mk (f1)) | (apply CallN.mk (f2)) | (apply CallN.mk (f6)) | (apply CallN.mk (f7)) | (apply CallN.mk (f8)) | (with_reducible first | apply Bif.T | apply Bif.F) | ((with_reducible first | apply Bif.beq | apply Bif.bne) <;> intro h <;> (try simp only [lns] at h) <;> (try first | (exfalso; omega) | (exact absurd rfl h))) | (with_reducible apply Bif.not) | ((with_reducible apply Bif.mk) <;> intro h <;> (try (simp_all; done))) | (apply Same.bool; focus (with_reducible rfl)) | (with_reducible apply GiveN.lend)) <;> conv => whnf) | fail)
theorem k_hears (r : Rea) (now nb cost : Int) (m : Msg) (hr : ReaOK r) (hm : MsgOK m) : Con Try.prog 22 [reaF r, int now, .v (.int .u64 nb), int cost, msgV m] [] (bool true) [] := by
  have a3 := k_xValidMessage m
  have a4 := k_yValidMessage m
  have b1 := k_xHear r now nb cost m hr hm
  have b2 := k_yHear r now nb cost m hr hm
  have b3 := hearM_ok (now := now) (nb := nb) (cost := cost) hr hm
  have b4 := fun e => (hearM_rv (now := now) (nb := nb) (cost := cost) hr hm e).v
  have b5 := hearM_len r now nb cost m
  generalize hearM r now nb cost m = q at *
  obtain ⟨x1, l1, e1⟩ := q
  dsimp only at b1 b2 b3 b4 b5
  have b6 := k_SameReactive x1 b3
  have b7 := k_EqS l1 (by omega)
  have b8 := k_xValid x1 b3
  generalize validX x1 = v1 at *
  generalize vMsg m = v at *
  dsimp only [reaO, reaH, reaF, List.cons_append, List.nil_append] at *
  refine spec_of_run ttok mixed (T0 := 130623) (ts := [.tmp 10]) 65 rfl rfl rfl rfl (by simp) rfl ?_
  conv => whnf
  repeat' (first | with_reducible apply True.intro | ((with_reducible apply Same.mk); (focus (rw [b4 (by assumption)]; done)); (conv => whnf)) | ((first | ((with_reducible apply Nm.mk); focus ((try simp only [lns]); exact rfl)) | ((with_reducible apply Need.mk); focus first | (simp only [lns]; omega) | exact CleanP.nil rfl | kernel_rfl) | (apply CallN.mk (a3)) | (apply CallN.mk (a4)) | (apply CallN.mk (b1)) | (apply CallN.mk (b2)) | (apply CallN.mk (b6)) | (apply CallN.mk (b7)) | (apply CallN.mk (b8)) | (with_reducible first | apply Bif.T | apply Bif.F) | ((with_reducible first | apply Bif.beq | apply Bif.bne) <;> intro h <;> (try simp only [lns] at h) <;> (try first | (exfalso; omega) | (exact absurd rfl h))) | (apply Same.bool; focus (with_reducible rfl)) | (with_reducible apply GiveN.lend)) <;> conv => whnf) | fail)
end Go.Fw
