/- Networks that are made. -/
import Derived.Test.YtpmiaggdjgfjgaaParF
namespace Go.Fw
open Go.Proofs
set_option maxHeartbeats 4000000
set_option maxRecDepth 4000
theorem k_CloneU (l : List Int) (t : Tg) (hl : l.length ≤ 1000000) : Con Try.prog 35 [.fs t 1 (lst u64 l)] [] (.ov 1 0 0 l.length) [.arr none 1 (lst u64 l)] := by
  rcases l with _ | ⟨a, l⟩
  · refine Con.nil1 ?_ ?_
    · refine spec_of_run ttok mixed (T0 := 21) (ts := [.tmp 2]) 8 rfl rfl rfl rfl (by simp) rfl ?_
      conv => whnf
      repeat' (first | with_reducible apply True.intro | ((first | (with_reducible apply Bif.T) | (with_reducible apply Same.rfl) | (apply Same.rfl)) <;> conv => whnf) | fail)
    · refine spec_of_run ttok mixed (T0 := 21) (ts := [.tmp 2]) 8 rfl rfl rfl rfl (by simp) rfl ?_
      conv => whnf
      repeat' (first | with_reducible apply True.intro | ((first | ((with_reducible apply Nm.mk); focus ((try simp only [lns]); exact rfl)) | ((with_reducible apply Need.mk); focus (unfold roomOK; simp only [lns]; omega)) | (with_reducible apply Bif.F) | (with_reducible apply Same.rfl) | (apply Same.rfl) | (with_reducible first | apply Alt.l | apply Cut.l)) <;> conv => whnf) | fail)
  · have hl' : l.length + 1 ≤ 1000000 := hl
    clear hl
    obtain ⟨cap, nn⟩ := t
    cases nn
    all_goals
      refine spec_of_run ttok mixed (T0 := 21) (ts := [.tmp 2]) 8 rfl rfl rfl rfl (by simp) rfl ?_
      conv => whnf
      repeat' (first | with_reducible apply True.intro | ((first | ((with_reducible apply Nm.mk); focus ((try simp only [lns]); exact rfl)) | ((with_reducible apply Need.mk); focus first | exact List.cons_ne_nil _ _ | (unfold roomOK; simp only [lns]; omega)) | (with_reducible apply Bif.F) | (with_reducible apply Same.rfl) | (apply Same.rfl) | (with_reducible first | apply Alt.l | apply Cut.l)) <;> conv => whnf) | fail)
/-- What a made network is. -/
structure NetM (n : Net) : Prop where
  v : validN n = true
  e3 : n.ep ≤ 3
  lm : n.mem.length ≤ 5
  lc : n.cl.length ≤ 6
  hi : ∀ x ∈ n.mem, x ≤ 5
theorem NetM.R {n : Net} (h : NetM n) : NetR n :=
  ⟨fun x hx => Int.le_of_lt ((validN_iff.1 h.v).2.1.2.2.1 x hx), by have := h.lm; omega, by have := h.lc; omega⟩
theorem snocU (m : List Int) (k : Int) : m.length + 1 = (m ++ [k]).length := by simp
theorem snocL (m : List Int) (k : Int) : lst u64 m ++ [SV.v (Value.int IntKind.u64 k)] = lst u64 (m ++ [k]) := by simp [lst]; rfl
structure NetI where
  m : List Int
  k : Int
  a : Int
  ha : 0 ≤ a
  hk : 1 ≤ k ∧ k ≤ 6
  pw : m.Pairwise (· < ·)
  lt : ∀ x ∈ m, 0 < x ∧ x < k
  ln : (m.length : Int) + 1 ≤ k
theorem NetI.snoc {m : List Int} {k : Int} (hk : 1 ≤ k ∧ k ≤ 5) (pw : m.Pairwise (· < ·)) (lt : ∀ x ∈ m, 0 < x ∧ x < k) : (m ++ [k]).Pairwise (· < ·) ∧ ∀ x ∈ m ++ [k], 0 < x ∧ x < k + 1 :=
  ⟨snoc_pw pw fun z hz => (lt z hz).2, fun x hx => by
    rcases List.mem_append.1 hx with h | h
    · have := lt x h; omega
    · rw [List.mem_singleton.1 h]; omega⟩
theorem k_world_NetO (l : List Int) (at_ now : Int) (hk : 0 ≤ at_) (hl : l.length ≤ 400) (hb : 0 ≤ now ∧ now ≤ 1099511627776) :
    ∃ r hp', (∃ (x : Net) (k' : Int), r = netO x 1 2 ∧ hp' = .cells (tape l k') :: netH x ∧ NetM x ∧ 0 ≤ k') ∧ Con Try.prog 12 [.pb 0 [], int now] [.cells (tape l at_)] r hp' := by
  refine spec_of_runR ttok mixed (T0 := 1074298995) (ts := [.cell 4 29]) 47 rfl rfl rfl rfl (by simp) rfl ?_
  conv => whnf
  repeat' (first | ((first | (refine CallN.ex (k_tape_Next l _ 4 (by omega) hl (by omega)) ?_; rintro _ _ ⟨ep, k0, rfl, rfl, a1, a2, a3⟩) | (refine CallN.ex (k_world_ClaimsV l _ 6 now (by omega) hl (by omega) hb) ?_; rintro _ _ ⟨L, k1, rfl, rfl, b1, b2, b3⟩)) <;> conv => whnf) | fail)
  refine LoopN.adoptF 3 1 (.agg [idV ep 0, .ov 1 4 0 0, .ov 20 2 0 L.length]) rfl (by simp) (.cons .rfl (.cons .nil .rfl)) ?_
  refine LoopN.turn [1, 6] [(0, .pb 0 []), (4, .pb 1 []), (5, .pb 2 [])] [.cells (tape l k1), .cells (.agg [idV 0 0, .v (.slice none 0 0), .v (.slice none 0 0)]), .cells (.agg [idV ep 0, .ov 1 3 0 0, .ov 20 4 0 L.length]), .arr none 1 [], .arr none 20 (lst clmV L)] ?_
  conv => whnf
  repeat' (first | ((first | (with_reducible apply Same.rfl) | (with_reducible apply Cut.l)) <;> conv => whnf) | fail)
  refine loop_keep ttok mixed (T0 := 1074298995) [1] (ι := NetI)
    (fun p => [(0, .pb 0 []), (4, .pb 1 []), (5, .pb 2 []), (6, int p.k)]) (fun p => [.cells (tape l p.a), .cells (.agg [idV 0 0, .v (.slice none 0 0), .v (.slice none 0 0)]), .cells (.agg [idV ep 0, .ov 1 3 0 p.m.length, .ov 20 4 0 L.length]), .arr none 1 (lst u64 p.m), .arr none 20 (lst clmV L)]) (fun p => (6 - p.k).toNat) ⟨[], 1, k1, b2, by omega, .nil, by simp, by simp⟩ ?_
  conv => whnf
  repeat' (first | ((first | (with_reducible apply Same.rfl) | (apply Same.int; focus rfl) | (apply Same.rfl)) <;> conv => whnf) | fail)
  rintro ⟨m, k, a, ha, hk, pw, lt, ln⟩
  dsimp only
  conv => whnf
  by_cases h5 : k ≤ 5
  · obtain ⟨s1, s2⟩ := NetI.snoc ⟨hk.1, h5⟩ pw lt
    repeat' (first | ((first | ((with_reducible apply Nm.mk); focus ((try simp only [lns]); exact rfl)) | ((with_reducible first | apply Wr.i64 | apply Wr.u64); focus omega) | ((with_reducible apply Need.mk); focus first | (simp only [lns]; omega) | (unfold roomOK; simp only [lns]; omega)) | (refine CallN.ex (k_tape_Bool l _ 2 (by omega) hl (by omega)) ?_; rintro _ _ ⟨b, k2, rfl, rfl, c1⟩) | ((with_reducible apply Bif.dec) <;> intro h <;> (try simp only [lns] at h) <;> (try (exfalso; omega))) | ((with_reducible apply Bif.mk) <;> intro h) | (with_reducible apply Alt.l)) <;> conv => whnf) | fail)
    · (refine ⟨⟨m ++ [k], k + 1, k2, c1, by omega, s1, s2, by simp; omega⟩, ?_⟩; (try dsimp only); conv => whnf); repeat' (first | with_reducible apply True.intro | ((with_reducible apply Turn.r); (conv => whnf)) | ((apply Same.mk (snocU m k)); (conv => whnf)) | ((apply Same.mk (snocL m k)); (conv => whnf)) | ((first | ((with_reducible apply Need.mk); focus omega) | (with_reducible apply Same.rfl) | (apply Same.int; focus rfl) | (with_reducible apply Cut.l)) <;> conv => whnf) | fail)
    · (refine ⟨⟨m, k + 1, k2, c1, by omega, pw, fun x hx => by have := lt x hx; omega, by omega⟩, ?_⟩; (try dsimp only); conv => whnf); repeat' (first | with_reducible apply True.intro | ((with_reducible apply Turn.r); (conv => whnf)) | ((first | ((with_reducible apply Need.mk); focus omega) | (with_reducible apply Same.rfl) | (apply Same.int; focus rfl) | (with_reducible apply Cut.l)) <;> conv => whnf) | fail)
  · repeat' (first | ((first | ((with_reducible apply Nm.mk); focus ((try simp only [lns]); exact rfl)) | ((with_reducible apply Need.mk); focus first | omega | kernel_rfl) | ((with_reducible apply Elem.lst); focus omega) | (refine CallN.ex (k_tape_Next l _ _ (by omega) hl (by omega)) ?_; rintro _ _ ⟨w, k3, rfl, rfl, c1, c2, c3⟩) | (refine CallN.ex (k_world_EUI l _ (by omega) hl) ?_; rintro _ _ ⟨eu, k4, rfl, rfl, d1, d2, d3⟩) | ((with_reducible first | apply Bif.dec | apply Bif.beq) <;> intro h <;> (try simp only [lns] at h) <;> (try (exfalso; omega)))) <;> conv => whnf) | fail)
    · apply Elem.mk (u64 eu) (by rw [show w.toNat = 0 by omega]; rfl)
      conv => whnf
      repeat' (first | (((with_reducible apply Need.mk); focus kernel_rfl) <;> conv => whnf) | fail)
      (refine ⟨_, _, ⟨⟨ep, eu, [eu], L⟩, k3, rfl, rfl, ⟨validN_iff.2 ⟨(show 0 ≤ ep ∧ ep ≤ 1073741824 by omega), ⟨(by simp), (by simp), (fun x hx => by rw [List.mem_singleton.1 hx]; omega), List.pairwise_singleton _ _⟩, List.mem_singleton.2 rfl, b3⟩, (show ep ≤ 3 by omega), (show 1 ≤ 5 by omega), b1, (fun x hx => by rw [List.mem_singleton.1 hx]; omega)⟩, c3⟩, ?_⟩; conv => whnf); repeat' (first | with_reducible apply True.intro | ((first | (with_reducible apply Same.rfl) | (apply Same.int; focus rfl) | (apply Same.rfl) | (with_reducible apply Cut.l)) <;> conv => whnf) | fail)
    · have hlt : w.toNat < m.length := by omega
      (refine ⟨_, _, ⟨⟨ep, gt m w.toNat, m, L⟩, k3, rfl, rfl, ⟨validN_iff.2 ⟨(show 0 ≤ ep ∧ ep ≤ 1073741824 by omega), ⟨(show 1 ≤ m.length by omega), (show m.length ≤ 12 by omega), (fun x hx => (lt x hx).1), pw⟩, gt_mem hlt, b3⟩, (show ep ≤ 3 by omega), (show m.length ≤ 5 by omega), b1, (fun x hx => by have := lt x hx; omega)⟩, c3⟩, ?_⟩; conv => whnf); repeat' (first | with_reducible apply True.intro | ((first | (with_reducible apply Same.rfl) | (apply Same.int; focus rfl) | (with_reducible apply Cut.l)) <;> conv => whnf) | fail)
theorem k_world_Net (l : List Int) (at_ now : Int) (hk : 0 ≤ at_) (hl : l.length ≤ 400) (hb : 0 ≤ now ∧ now ≤ 1099511627776) :
    ∃ r hp', (∃ (x : Net) (k' : Int), r = netF x ∧ hp' = [.cells (tape l k')] ∧ NetM x ∧ 0 ≤ k') ∧ Con Try.prog 12 [.pb 0 [], int now] [.cells (tape l at_)] r hp' := by
  obtain ⟨r, hp', ⟨x, k', rfl, rfl, hx, hk'⟩, hc⟩ := k_world_NetO l at_ now hk hl hb
  refine ⟨netF x, [.cells (tape l k')], ⟨x, k', rfl, rfl, hx, hk'⟩, hc.fz 1 (Nat.le_refl _) (.one (.aggC .same (.aggC (.whole (by omega) rfl) (.aggC (.whole (by omega) rfl) .aggN))) (fun l h => by cases h)) rfl ?_ rfl rfl⟩
  intro k ob h1 h2
  match k, h1, h2 with
  | 1, _, h2 => cases h2; exact ⟨_, _, _, rfl⟩
  | 2, _, h2 => cases h2; exact ⟨_, _, _, rfl⟩
end Go.Fw
