/- The reference's Merge. -/
import Derived.Test.YtpmiaggdjgfjgaaDetO
namespace Go.Fw
open Go.Proofs
set_option maxHeartbeats 4000000
set_option maxRecDepth 4000
theorem k_refBefore (x y : Clm) : Con Try.prog 81 [clmV x, clmV y] [] (bool (decide (cmpC x y < 0))) [] := by
  refine spec_of_run ttok mixed (T0 := 4159) (ts := [.tmp 4]) 18 rfl rfl rfl rfl (by simp) rfl ?_
  conv => whnf
  by_cases e : x.ip = y.ip
  · have e0 : cmpIP x.ip y.ip = 0 := by rw [e, cmpIP_refl]
    have hc : decide (cmpC x y < 0) = betterC x y := by
      cases h1 : betterC x y
      · rw [decide_eq_false_iff_not, cmpC_lt]
        rintro (h | ⟨_, h⟩)
        · omega
        · rw [h1] at h; cases h
      · rw [decide_eq_true_eq, cmpC_lt]
        exact .inr ⟨e, h1⟩
    rw [hc]
    repeat' (first | with_reducible apply True.intro | ((first | (apply CallN.mk (k_CompareIP _ _)) | (apply CallN.mk (k_refBetter _ _)) | ((with_reducible apply Bif.bne) <;> intro h <;> (try simp only [lns, ipRows_take] at h) <;> (try (exfalso; omega))) | (with_reducible apply Same.rfl)) <;> conv => whnf) | fail)
  · have e0 : cmpIP x.ip y.ip ≠ 0 := fun h => e (cmpIP_zero h)
    have hc : decide (cmpC x y < 0) = decide (cmpIP x.ip y.ip < 0) := by
      rw [decide_eq_decide, cmpC_lt]
      exact ⟨fun h => h.elim id fun h => absurd h.1 e, .inl⟩
    rw [hc]
    repeat' (first | with_reducible apply True.intro | ((first | (apply CallN.mk (k_CompareIP _ _)) | ((with_reducible apply Bif.bne) <;> intro h <;> (try simp only [lns, ipRows_take] at h) <;> (try (exfalso; omega))) | (apply Same.bool; focus (with_reducible rfl))) <;> conv => whnf) | fail)
theorem k_refBest (a b : List Clm) (t1 t2 : Tg) (now : Int) (ip : IP) (hla : a.length ≤ 1000) (hlb : b.length ≤ 1000) :
    ∃ r hp', (∃ (x : Clm) (f : Bool), ((∃ y ∈ cur a now ++ cur b now, y.ip = ip) → bestIn (cur a now ++ cur b now) x ∧ x.ip = ip) ∧ r = .tup [clmV x, bool f] ∧ hp' = []) ∧
      Con Try.prog 80 [.fs t1 20 (lst clmV a), .fs t2 20 (lst clmV b), int now, ipV ip] [] r hp' := by
  have c1 := cur_len a now
  have c2 := cur_len b now
  obtain ⟨s, hs⟩ : ∃ s, s = cur a now ++ cur b now := ⟨_, rfl⟩
  have el : (cur a now).length + (cur b now).length = s.length := by rw [hs, List.length_append]
  refine spec_of_runR ttok mixed (T0 := 274893647759) (ts := [.cell 8 54, .tmp 9]) 43 rfl rfl rfl rfl (by simp) rfl ?_
  conv => whnf
  repeat' (first | ((first | ((with_reducible apply Nm.mk); focus ((try simp only [lns, ipRows_take]); exact rfl)) | ((with_reducible apply Need.mk); focus first | (simp only [lns, ipRows_take]; omega) | (unfold roomOK; simp only [lns, ipRows_take]; omega)) | (apply CallN.mk (k_refCurrent a t1 now (by omega))) | (apply CallN.mk (k_refCurrent b t2 now (by omega))) | (with_reducible apply Alt.l)) <;> conv => whnf) | fail)
  rw [el, ← hs]
  refine loop_keep ttok mixed (T0 := 274893647759) [20, 21, 7, 8, 10, 9] (ι := {p : Nat × Clm × Bool // p.1 ≤ s.length ∧ (p.2.2 = false ∧ (∀ y ∈ s.take p.1, y.ip ≠ ip) ∨ p.2.2 = true ∧ bestIn (s.take p.1) p.2.1 ∧ p.2.1.ip = ip)})
    (fun p => [(11, bool p.1.2.2), (22, int (p.1.1 : Int))]) (fun p => [.cells (ipV ip), .cells (clmV ⟨⟨List.replicate 16 0, by decide⟩, 0, 0, 0, 0⟩), .cells (clmV p.1.2.1), .arr none 20 (lst clmV s), .arr none 20 (lst clmV (cur b now))]) (fun p => s.length - p.1.1) ⟨(0, ⟨⟨List.replicate 16 0, by decide⟩, 0, 0, 0, 0⟩, false), Nat.zero_le _, .inl ⟨rfl, fun y hy => by simp at hy⟩⟩ ?_
  conv => whnf
  repeat' (first | ((first | (with_reducible apply Same.rfl) | (apply Same.int; focus rfl) | (apply Same.bool; focus (with_reducible rfl)) | (apply Same.rfl)) <;> conv => whnf) | fail)
  rintro ⟨⟨k, x, f⟩, hk, hx⟩
  dsimp only at hk hx ⊢
  conv => whnf
  by_cases hkl : k < s.length
  · have ht := take_gt hkl
    by_cases hi : (gt s k).ip = ip
    · have hi' : (gt s k).ip.1 = ip.1 := by rw [hi]
      rcases hx with ⟨rfl, hx⟩ | ⟨rfl, hx, hxi⟩
      · repeat' (first | ((first | ((with_reducible apply Nm.mk); focus ((try simp only [lns, ipRows_take]); exact rfl)) | ((with_reducible apply Wr.i64); focus omega) | ((with_reducible apply Need.mk); focus omega) | ((with_reducible apply Elem.lst); focus omega) | (with_reducible first | apply Bif.T | apply Bif.F) | ((with_reducible first | apply Bif.dec | apply Bif.beq) <;> intro h <;> (try simp only [lns, ipRows_take] at h) <;> (try first | (exfalso; omega) | (exact absurd hi' h))) | (with_reducible apply Bif.not)) <;> conv => whnf) | fail)
        (refine ⟨⟨(k + 1, gt s k, true), hkl, .inr ⟨rfl, by dsimp only; rw [ht]; exact best_new hx hi, hi⟩⟩, ?_⟩; (try dsimp only); conv => whnf); repeat' (first | with_reducible apply True.intro | ((first | ((with_reducible apply Need.mk); focus omega) | (with_reducible apply Same.rfl) | (apply Same.int; focus rfl) | (apply Same.bool; focus (with_reducible rfl)) | (with_reducible apply Turn.l)) <;> conv => whnf) | fail)
      · by_cases hb : betterC (gt s k) x = true
        · repeat' (first | ((first | ((with_reducible apply Nm.mk); focus ((try simp only [lns, ipRows_take]); exact rfl)) | ((with_reducible apply Wr.i64); focus omega) | ((with_reducible apply Need.mk); focus omega) | ((with_reducible apply Elem.lst); focus omega) | (apply CallN.mk (k_refBetter _ _)) | (with_reducible first | apply Bif.T | apply Bif.F) | ((with_reducible first | apply Bif.dec | apply Bif.beq) <;> intro h <;> (try simp only [lns, ipRows_take] at h) <;> (try first | (exfalso; omega) | (exact absurd hi' h))) | (with_reducible apply Bif.not) | ((with_reducible apply Bif.mk) <;> intro h <;> (try (exact Bool.noConfusion (hb.symm.trans h))))) <;> conv => whnf) | fail)
          (refine ⟨⟨(k + 1, gt s k, true), hkl, .inr ⟨rfl, by dsimp only; rw [ht]; exact best_up hx (hxi.trans hi.symm) hb, hi⟩⟩, ?_⟩; (try dsimp only); conv => whnf); repeat' (first | with_reducible apply True.intro | ((first | ((with_reducible apply Need.mk); focus omega) | (with_reducible apply Same.rfl) | (apply Same.int; focus rfl) | (apply Same.bool; focus (with_reducible rfl)) | (with_reducible apply Turn.l)) <;> conv => whnf) | fail)
        · have hb' : betterC (gt s k) x = false := by simpa using hb
          repeat' (first | ((first | ((with_reducible apply Nm.mk); focus ((try simp only [lns, ipRows_take]); exact rfl)) | ((with_reducible apply Wr.i64); focus omega) | ((with_reducible apply Need.mk); focus omega) | ((with_reducible apply Elem.lst); focus omega) | (apply CallN.mk (k_refBetter _ _)) | (with_reducible first | apply Bif.T | apply Bif.F) | ((with_reducible first | apply Bif.dec | apply Bif.beq) <;> intro h <;> (try simp only [lns, ipRows_take] at h) <;> (try first | (exfalso; omega) | (exact absurd hi' h))) | (with_reducible apply Bif.not) | ((with_reducible apply Bif.mk) <;> intro h <;> (try (exact absurd h hb)))) <;> conv => whnf) | fail)
          (refine ⟨⟨(k + 1, x, true), hkl, .inr ⟨rfl, by dsimp only; rw [ht]; exact (best_more hx (hxi.trans hi.symm) hb' x).2 hx, hxi⟩⟩, ?_⟩; (try dsimp only); conv => whnf); repeat' (first | with_reducible apply True.intro | ((first | ((with_reducible apply Need.mk); focus omega) | (with_reducible apply Same.rfl) | (apply Same.int; focus rfl) | (with_reducible apply Turn.l)) <;> conv => whnf) | fail)
    · have hi' : ¬ (gt s k).ip.1 = ip.1 := fun h => hi (ip_ext h)
      repeat' (first | ((first | ((with_reducible apply Nm.mk); focus ((try simp only [lns, ipRows_take]); exact rfl)) | ((with_reducible apply Wr.i64); focus omega) | ((with_reducible apply Need.mk); focus omega) | ((with_reducible apply Elem.lst); focus omega) | (with_reducible apply Bif.F) | ((with_reducible first | apply Bif.dec | apply Bif.beq) <;> intro h <;> (try simp only [lns, ipRows_take] at h) <;> (try first | (exfalso; omega) | (exact absurd h hi')))) <;> conv => whnf) | fail)
      rcases hx with ⟨rfl, hx⟩ | ⟨rfl, hx, hxi⟩
      · (refine ⟨⟨(k + 1, x, false), hkl, .inl ⟨rfl, by
          dsimp only
          rw [ht]
          intro y hy
          rcases List.mem_append.1 hy with hy | hy
          · exact hx y hy
          · rw [List.mem_singleton.1 hy]; exact hi⟩⟩, ?_⟩; (try dsimp only); conv => whnf); repeat' (first | with_reducible apply True.intro | ((first | ((with_reducible apply Need.mk); focus omega) | (with_reducible apply Same.rfl) | (apply Same.int; focus rfl) | (with_reducible apply Turn.l)) <;> conv => whnf) | fail)
      · (refine ⟨⟨(k + 1, x, true), hkl, .inr ⟨rfl, by dsimp only; rw [ht]; exact best_other hx (fun h => hi (h.trans hxi)), hxi⟩⟩, ?_⟩; (try dsimp only); conv => whnf); repeat' (first | with_reducible apply True.intro | ((first | ((with_reducible apply Need.mk); focus omega) | (with_reducible apply Same.rfl) | (apply Same.int; focus rfl) | (with_reducible apply Turn.l)) <;> conv => whnf) | fail)
  · have hkE : k = s.length := by omega
    subst hkE
    rw [List.take_length] at hx
    repeat' (first | (((with_reducible apply Bif.dec) <;> intro h <;> (try simp only [lns, ipRows_take] at h) <;> (try (exfalso; omega))) <;> conv => whnf) | fail)
    (refine ⟨_, _, ⟨x, f, fun ⟨y, y1, y2⟩ => by
      rcases hx with ⟨_, hx⟩ | ⟨_, hx⟩
      · exact absurd y2 (hx y y1)
      · exact hx, rfl, rfl⟩, ?_⟩; conv => whnf); repeat' (first | with_reducible apply True.intro | ((with_reducible apply Same.rfl) <;> conv => whnf) | fail)
end Go.Fw
