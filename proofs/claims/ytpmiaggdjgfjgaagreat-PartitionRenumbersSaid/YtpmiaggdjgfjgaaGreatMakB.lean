/- Claims that are made from a tape. -/
import Derived.Test.YtpmiaggdjgfjgaaGreatDetF
namespace Go.Fw
set_option maxRecDepth 4000
open Go.Proofs
set_option maxHeartbeats 4000000
def TapeClms (l : List Int) (n : Nat) (r : SV) (hp' : List OB) : Prop := ∃ (L : List Clm) (k' : Int), r = .ov 20 1 0 L.length ∧ hp' = [.cells (tape l k'), .arr none 20 (lst clmV L)] ∧ L.length ≤ n ∧ 0 ≤ k'
structure ClmsI (n : Nat) where
  L : List Clm
  k : Int
  a : Int
  ha : 0 ≤ a
  hk : 0 ≤ k
  hn : L.length + k.toNat ≤ n
theorem insM_len (r : List Clm) (c : Clm) : (insM r c).length = r.length + 1 := by simp [insM]; omega
theorem k_world_Claims (l : List Int) (at_ : Int) (n : Nat) (now : Int) (hk : 0 ≤ at_) (hl : l.length ≤ 400) (hn : n ≤ 10) (hb : 0 ≤ now ∧ now ≤ 1099511627776) :
    ∃ r hp', TapeClms l n r hp' ∧ Con Tryz.prog 9 [.pb 0 [], int n, int now] [.cells (tape l at_)] r hp' := by
  refine spec_of_runR ttok mixed (T0 := 18018521678354375) (ts := [.tmp 6]) 59 rfl rfl rfl rfl (by simp) rfl ?_
  conv => whnf
  repeat' (first | ((first | ((with_reducible apply Wr.i64); focus omega) | (refine CallN.ex (k_tape_Next l _ _ (by omega) hl (by omega)) ?_; rintro _ _ ⟨x0, k0, rfl, rfl, a1, a2, a3⟩) | (with_reducible apply Frz.l)) <;> conv => whnf) | fail)
  refine LoopN.adopt 7 20 rfl (by simp) ?_
  refine loop_keep ttok mixed (T0 := 18018521678354375) [0, 2] (ι := ClmsI n)
    (fun p => [(7, .ov 20 1 0 p.L.length), (8, int p.k)]) (fun p => [.cells (tape l p.a), .arr none 20 (lst clmV p.L)]) (fun p => p.k.toNat) ⟨[], x0, k0, a3, a1, by simp; omega⟩ ?_
  conv => whnf
  repeat' (first | ((apply Same.mk rfl); conv => whnf) | ((with_reducible apply Frz.l) <;> conv => whnf) | fail)
  rintro ⟨L, k, a, ha, hk0, hn0⟩
  dsimp only
  conv => whnf
  by_cases hk1 : k > 0
  · repeat' (first | ((first | ((with_reducible apply Wr.i64); focus omega) | ((with_reducible apply Need.mk); focus kernel_rfl) | (refine CallN.ex (k_tape_Next l _ 6 (by omega) hl (by omega)) ?_; rintro _ _ ⟨s6, ka, rfl, rfl, b1, b2, b3⟩) | (refine CallN.ex (k_tape_Next l _ 60 (by omega) hl (by omega)) ?_; rintro _ _ ⟨s60, kb, rfl, rfl, c1, c2, c3⟩) | (refine CallN.ex (k_world_IP l _ (by omega) hl) ?_; rintro _ _ ⟨ip, kc, rfl, rfl, d1⟩) | (refine CallN.ex (k_world_EUI l _ (by omega) hl) ?_; rintro _ _ ⟨eu, kd, rfl, rfl, e1, e2, e3⟩) | (refine CallN.ex (k_world_Time l _ now (by omega) hl hb) ?_; rintro _ _ ⟨tm, ke, rfl, rfl, f1, f2, f3⟩) | ((with_reducible apply Bif.dec) <;> intro h <;> (try simp only [lns] at h) <;> (try (exfalso; omega))) | (with_reducible apply Frz.l)) <;> conv => whnf) | fail)
    refine loop_keep ttok mixed (T0 := 18018521678354375) [0, 2, 7, 8, 9, 38, 39] (ι := {p : Nat × Bool // p.1 ≤ L.length})
      (fun p => [(10, bool p.1.2), (40, int (p.1.1 : Int))]) (fun _ => [.cells (tape l kb), .arr none 20 (lst clmV L), .cells (clmV ⟨ip, eu, s6, tm, min 1099511627776 (tm + s60)⟩)]) (fun p => L.length - p.1.1) ⟨(0, false), by simp⟩ ?_
    conv => whnf
    repeat' (first | ((apply Same.mk rfl); conv => whnf) | ((with_reducible apply Frz.l) <;> conv => whnf) | fail)
    rintro ⟨⟨j, b⟩, hj⟩
    dsimp only at hj ⊢
    conv => whnf
    by_cases hjl : j < L.length
    · cases b
      · repeat' (first | ((first | ((with_reducible apply Nm.mk); focus ((try simp only [lns]); exact rfl)) | ((with_reducible apply Wr.i64); focus omega) | ((with_reducible apply Need.mk); focus omega) | ((with_reducible apply Elem.lst); focus omega) | (with_reducible apply Bif.F) | ((with_reducible apply Bif.dec) <;> intro h <;> (try simp only [lns] at h) <;> (try (exfalso; omega))) | (with_reducible apply Frz.l)) <;> conv => whnf) | fail)
        (refine ⟨⟨(j + 1, (gt L j).ip.1 == ip.1), by dsimp only; omega⟩, ?_⟩; (try dsimp only); conv => whnf); repeat' (first | with_reducible apply True.intro | ((first | ((with_reducible apply Need.mk); focus omega) | (with_reducible apply Same.rfl) | (apply Same.int; focus rfl) | (apply Same.bool; focus (with_reducible rfl)) | (with_reducible apply Turn.l) | (with_reducible apply Frz.l)) <;> conv => whnf) | fail)
      · repeat' (first | ((first | ((with_reducible apply Nm.mk); focus ((try simp only [lns]); exact rfl)) | ((with_reducible apply Wr.i64); focus omega) | ((with_reducible apply Need.mk); focus omega) | ((with_reducible apply Elem.lst); focus omega) | (with_reducible apply Bif.T) | ((with_reducible apply Bif.dec) <;> intro h <;> (try simp only [lns] at h) <;> (try (exfalso; omega))) | (with_reducible apply Frz.l)) <;> conv => whnf) | fail)
        (refine ⟨⟨(j + 1, true), by dsimp only; omega⟩, ?_⟩; (try dsimp only); conv => whnf); repeat' (first | with_reducible apply True.intro | ((first | ((with_reducible apply Need.mk); focus omega) | (with_reducible apply Same.rfl) | (apply Same.int; focus rfl) | (apply Same.bool; focus (with_reducible rfl)) | (with_reducible apply Turn.l) | (with_reducible apply Frz.l)) <;> conv => whnf) | fail)
    · cases b
      · have hl2 := insM_len L ⟨ip, eu, s6, tm, min 1099511627776 (tm + s60)⟩
        repeat' (first | ((first | ((with_reducible apply Nm.mk); focus ((try simp only [lns]); exact rfl)) | ((with_reducible apply Wr.i64); focus omega) | ((with_reducible apply Need.mk); focus first | (simp only [lns]; omega) | exact CleanP.lst rfl (fun _ => rfl)) | (apply CallN.mk (k_refInsert L _ ⟨ip, eu, s6, tm, min 1099511627776 (tm + s60)⟩ (by omega))) | (with_reducible apply Bif.F) | ((with_reducible apply Bif.dec) <;> intro h <;> (try simp only [lns] at h) <;> (try (exfalso; omega))) | (with_reducible apply Bif.not) | (with_reducible apply GiveN.lend) | (with_reducible apply Frz.l)) <;> conv => whnf) | fail)
        (refine ⟨⟨insM L ⟨ip, eu, s6, tm, min 1099511627776 (tm + s60)⟩, k - 1, kb, by omega, by omega, by omega⟩, ?_⟩; (try dsimp only); conv => whnf); repeat' (first | with_reducible apply True.intro | ((with_reducible apply Turn.r); conv => whnf) | ((first | ((with_reducible apply Need.mk); focus omega) | (with_reducible apply Same.rfl) | (apply Same.int; focus rfl) | (with_reducible apply Cut.l) | (with_reducible apply Frz.l)) <;> conv => whnf) | fail)
      · repeat' (first | ((first | ((with_reducible apply Wr.i64); focus omega) | (with_reducible apply Bif.T) | ((with_reducible apply Bif.dec) <;> intro h <;> (try simp only [lns] at h) <;> (try (exfalso; omega))) | (with_reducible apply Bif.not) | (with_reducible apply Frz.l)) <;> conv => whnf) | fail)
        (refine ⟨⟨L, k - 1, kb, by omega, by omega, by omega⟩, ?_⟩; (try dsimp only); conv => whnf); repeat' (first | with_reducible apply True.intro | ((first | ((with_reducible apply Need.mk); focus omega) | (with_reducible apply Same.rfl) | (apply Same.int; focus rfl) | (with_reducible apply Turn.l) | (with_reducible apply Frz.l)) <;> conv => whnf) | fail)
  · repeat' (first | ((first | ((with_reducible apply Bif.dec) <;> intro h <;> (try simp only [lns] at h) <;> (try (exfalso; omega))) | (with_reducible apply Frz.l)) <;> conv => whnf) | fail)
    (refine ⟨_, _, ⟨L, a, rfl, rfl, by omega, ha⟩, ?_⟩; conv => whnf); repeat' (first | with_reducible apply True.intro | ((first | (with_reducible apply Same.rfl) | (with_reducible apply Cut.l) | (with_reducible apply Frz.l)) <;> conv => whnf) | fail)
end Go.Fw
