/- Registries: Merge. -/
import Derived.Test.YtpmiaggdjgfjgaaGreatMakB

namespace Go.Fw
open Go.Proofs
set_option maxHeartbeats 4000000
set_option maxRecDepth 4000
theorem k_Merge1 (x y : Clm) : Con Tryz.prog 61 [clmV x, clmV y] [] (int (cmpC x y)) [] := by
  refine spec_of_run ttok mixed (T0 := 557599) (ts := [.tmp 4]) 23 rfl rfl rfl rfl (by simp) rfl ?_
  conv => whnf
  by_cases e : x.ip = y.ip
  · have e0 : x.ip.1 = y.ip.1 := by rw [e]
    have e1 : ¬ x.ip ≠ y.ip := fun h => h e
    cases h1 : betterC x y
    · cases h2 : betterC y x
      · have hc : cmpC x y = 0 := by unfold cmpC; rw [if_neg e1, if_neg (by simp [h1]), if_neg (by simp [h2])]
        rw [hc]
        repeat' (first | with_reducible apply True.intro | ((first | (apply CallN.mk (k_Better _ _)) | ((with_reducible apply Bif.beq) <;> intro h <;> (try simp only [lns, ipRows_take] at h) <;> (try (simp_all; done))) | (with_reducible apply Bif.not) | ((with_reducible apply Bif.mk) <;> intro h <;> (try (simp_all; done))) | (apply Same.int; focus rfl) | (with_reducible apply Frz.l)) <;> conv => whnf) | fail)
      · have hc : cmpC x y = 1 := by unfold cmpC; rw [if_neg e1, if_neg (by simp [h1]), if_pos h2]
        rw [hc]
        repeat' (first | with_reducible apply True.intro | ((first | (apply CallN.mk (k_Better _ _)) | ((with_reducible apply Bif.beq) <;> intro h <;> (try simp only [lns, ipRows_take] at h) <;> (try (simp_all; done))) | (with_reducible apply Bif.not) | ((with_reducible apply Bif.mk) <;> intro h <;> (try (simp_all; done))) | (apply Same.int; focus rfl) | (with_reducible apply Frz.l)) <;> conv => whnf) | fail)
    · have hc : cmpC x y = -1 := by unfold cmpC; rw [if_neg e1, if_pos h1]
      rw [hc]
      repeat' (first | with_reducible apply True.intro | ((first | (apply CallN.mk (k_Better _ _)) | ((with_reducible apply Bif.beq) <;> intro h <;> (try simp only [lns, ipRows_take] at h) <;> (try (simp_all; done))) | (with_reducible apply Bif.not) | ((with_reducible apply Bif.mk) <;> intro h <;> (try (simp_all; done))) | (apply Same.int; focus rfl) | (with_reducible apply Frz.l)) <;> conv => whnf) | fail)
  · have e1 : ¬ x.ip.1 = y.ip.1 := fun h => e (ip_ext h)
    have hc : cmpC x y = cmpB x.ip.1 y.ip.1 := by unfold cmpC; rw [if_pos e]; rfl
    rw [hc]
    repeat' (first | with_reducible apply True.intro | ((first | ((with_reducible apply Nm.mk); focus ((try simp only [lns, ipRows_take]); exact rfl)) | ((with_reducible apply Need.mk); focus first | omega | exact CleanP.nil rfl | kernel_rfl) | (apply CallN.mk (k_bytesCompare _ _ _ _)) | ((with_reducible apply Bif.beq) <;> intro h <;> (try simp only [lns, ipRows_take] at h) <;> (try (simp_all; done))) | (with_reducible apply Bif.not) | (with_reducible apply Same.rfl) | (with_reducible apply Frz.l)) <;> conv => whnf) | fail)
noncomputable def mergeM (a b : List Clm) (now : Int) : List Clm × List Clm × Int :=
  if validR a = true ∧ validR b = true then (if 0 ≤ now ∧ now ≤ 1099511627776 then mrgE (mrgP (cur a now ++ cur b now)) else ([], [], 2)) else ([], [], 1)
theorem k_MergeN (a b : List Clm) (now : Int) (hla : a.length ≤ 1000000) (hlb : b.length ≤ 1000000) :
    Con Tryz.prog 35 [.fs .no 20 (lst clmV a), .fs .no 20 (lst clmV b), int now] [] (.tup [.ov 20 0 0 (mergeM a b now).1.length, .ov 20 1 0 (mergeM a b now).2.1.length, int (mergeM a b now).2.2]) [.arr none 20 (lst clmV (mergeM a b now).1), .arr none 20 (lst clmV (mergeM a b now).2.1)] := by
  by_cases hv : validR a = true ∧ validR b = true
  · by_cases hn : 0 ≤ now ∧ now ≤ 1099511627776
    · have c1 := cur_len a now
      have c2 := cur_len b now
      have v1 := validR_len hv.1
      have v2 := validR_len hv.2
      obtain ⟨s, hs⟩ : ∃ s, s = cur a now ++ cur b now := ⟨_, rfl⟩
      have el : (cur a now).length + (cur b now).length = s.length := by rw [hs, List.length_append]
      have ks := k_SortStable_Clm 61 cmpC k_Merge1 cmpC_ok.pre s (by omega)
      simp only [mergeM, if_pos hv, if_pos hn]
      refine spec_of_run ttok mixed (T0 := 4951760159447382216430088135) (ts := [.tmp 6, .tmp 7, .tmp 8]) 95 rfl rfl rfl rfl (by simp) rfl ?_
      conv => whnf
      repeat' (first | ((first | ((with_reducible apply Nm.mk); focus ((try simp only [lns, ipRows_take]); exact rfl)) | ((with_reducible apply Need.mk); focus first | (simp only [lns, ipRows_take]; omega) | (unfold roomOK; simp only [lns, ipRows_take]; omega)) | (apply CallN.mk (k_Valid a .no hla)) | (apply CallN.mk (k_Valid b .no hlb)) | (apply CallN.mk (k_isTime _)) | (apply CallN.mk (k_current a .no now hla)) | (apply CallN.mk (k_current b .no now hlb)) | (with_reducible apply Bif.F) | ((with_reducible apply Bif.dec) <;> intro h <;> (try simp only [lns, ipRows_take] at h) <;> (try (exfalso; omega))) | (with_reducible apply Bif.not) | ((with_reducible apply Bif.mk) <;> intro h <;> (try (simp_all; done))) | (with_reducible apply Alt.l) | (with_reducible apply Frz.l)) <;> conv => whnf) | fail)
      rw [el, ← hs]
      refine GiveN.keep [0] ?_
      conv => whnf
      refine CallKN.ex ks ?_
      rintro _ _ ⟨w, ⟨hr, hw⟩, rfl, rfl⟩
      have hwl := hr.len
      conv => whnf
      repeat' (first | ((with_reducible apply Frz.l) <;> conv => whnf) | fail)
      refine LoopN.adopt 10 20 rfl (by simp) ?_
      refine LoopN.adopt 11 20 rfl (by simp) ?_
      refine loop_keep ttok mixed (T0 := 4951760159447382216430088135) [35, 36] (ι := {p : Nat × List Clm × List Clm // MrgOK (w.take p.1) p.2.1 p.2.2 ∧ p.1 ≤ w.length ∧ p.2.1.length ≤ p.1 ∧ p.2.2.length ≤ p.1})
        (fun p => [(10, .ov 20 2 0 p.1.2.1.length), (11, .ov 20 3 0 p.1.2.2.length), (37, int (p.1.1 : Int))]) (fun p => [.arr none 20 (lst clmV w), .arr none 20 (lst clmV (cur b now)), .arr none 20 (lst clmV p.1.2.1), .arr none 20 (lst clmV p.1.2.2)]) (fun p => w.length - p.1.1) ⟨(0, [], []), MrgOK.nil, Nat.zero_le _, Nat.zero_le _, Nat.zero_le _⟩ ?_
      conv => whnf
      repeat' (first | ((first | (with_reducible apply Same.rfl) | (apply Same.int; focus rfl) | (apply Same.ov; (focus rfl); focus rfl) | (apply Same.rfl) | (with_reducible apply Frz.l)) <;> conv => whnf) | fail)
      rintro ⟨⟨k, R, L⟩, hM, hk, hR, hL⟩
      dsimp only at hM hk hR hL ⊢
      rw [hwl.symm] at hw
      conv => whnf
      by_cases hkl : k < w.length
      · by_cases h0 : R.length = 0
        · repeat' (first | ((first | (with_reducible apply Nm.snoc _ (clm_mk _ _ _ _ _)) | ((with_reducible apply Nm.mk); focus ((try simp only [lns, ipRows_take]); exact rfl)) | ((with_reducible apply Wr.i64); focus omega) | ((with_reducible apply Need.mk); focus first | omega | (simp only [lns, ipRows_take]; omega) | kernel_rfl | (unfold roomOK; simp only [lns, ipRows_take]; omega)) | ((with_reducible apply Elem.lst); focus omega) | (with_reducible apply Bif.T) | ((with_reducible apply Bif.dec) <;> intro h <;> (try simp only [lns, ipRows_take] at h) <;> (try (exfalso; omega))) | (with_reducible apply Alt.l) | (with_reducible apply Frz.l)) <;> conv => whnf) | fail)
          (refine ⟨⟨(k + 1, R ++ [gt w k], L), hM.new hkl hw (.inl (List.length_eq_zero_iff.1 h0)), hkl, by simp; omega, by dsimp only; omega⟩, ?_⟩; (try dsimp only); conv => whnf); repeat' (first | with_reducible apply True.intro | ((first | ((with_reducible apply Need.mk); focus omega) | (with_reducible apply Same.rfl) | (apply Same.int; focus rfl) | (apply Same.ov; (focus rfl); focus (simp only [lns, ipRows_take]; first | done | omega)) | (with_reducible apply Turn.l) | (with_reducible apply Frz.l)) <;> conv => whnf) | fail)
        · have hR0 : 0 < R.length := by omega
          have e1 : ((R.length : Int) - 1).toNat = R.length - 1 := by omega
          by_cases h1 : (gt R (R.length - 1)).ip = (gt w k).ip
          · have h1' : (gt R (R.length - 1)).ip.1 = (gt w k).ip.1 := by rw [h1]
            by_cases h2 : (gt R (R.length - 1)).eui = (gt w k).eui
            · repeat' (first | ((first | ((with_reducible apply Nm.mk); focus ((try simp only [lns, ipRows_take]); exact rfl)) | ((with_reducible apply Wr.i64); focus omega) | ((with_reducible apply Need.mk); focus first | omega | kernel_rfl) | ((with_reducible apply Elem.lst); focus omega) | (with_reducible apply Bif.F) | ((with_reducible first | apply Bif.dec | apply Bif.beq | apply Bif.bne) <;> intro h <;> (try simp only [lns, ipRows_take] at h) <;> (try first | (exfalso; omega) | (rw [e1] at h; exact absurd h1' h) | (rw [e1] at h; exact absurd h2 h))) | (with_reducible apply Bif.not) | (with_reducible apply Frz.l)) <;> conv => whnf) | fail)
              (refine ⟨⟨(k + 1, R, L), hM.same hkl hw hR0 h1 (.inl h2), hkl, by dsimp only; omega, by dsimp only; omega⟩, ?_⟩; (try dsimp only); conv => whnf); repeat' (first | with_reducible apply True.intro | ((first | ((with_reducible apply Need.mk); focus omega) | (with_reducible apply Same.rfl) | (apply Same.int; focus rfl) | (with_reducible apply Turn.l) | (with_reducible apply Frz.l)) <;> conv => whnf) | fail)
            · by_cases h3 : L.length = 0
              · repeat' (first | ((first | (with_reducible apply Nm.snoc _ (clm_mk _ _ _ _ _)) | ((with_reducible apply Nm.mk); focus ((try simp only [lns, ipRows_take]); exact rfl)) | ((with_reducible apply Wr.i64); focus omega) | ((with_reducible apply Need.mk); focus first | omega | (simp only [lns, ipRows_take]; omega) | kernel_rfl | (unfold roomOK; simp only [lns, ipRows_take]; omega)) | ((with_reducible apply Elem.lst); focus omega) | (with_reducible first | apply Bif.T | apply Bif.F) | ((with_reducible first | apply Bif.dec | apply Bif.beq | apply Bif.bne) <;> intro h <;> (try simp only [lns, ipRows_take] at h) <;> (try first | (exfalso; omega) | (rw [e1] at h; exact absurd h1' h) | (rw [e1] at h; exact absurd h h2))) | (with_reducible apply Bif.not) | (with_reducible apply Alt.l) | (with_reducible apply Frz.l)) <;> conv => whnf) | fail)
                (refine ⟨⟨(k + 1, R, L ++ [gt w k]), hM.more hkl hw hR0 h1 h2 (.inl (List.length_eq_zero_iff.1 h3)), hkl, by dsimp only; omega, by simp; omega⟩, ?_⟩; (try dsimp only); conv => whnf); repeat' (first | with_reducible apply True.intro | ((first | ((with_reducible apply Need.mk); focus omega) | (with_reducible apply Same.rfl) | (apply Same.int; focus rfl) | (apply Same.ov; (focus rfl); focus (simp only [lns, ipRows_take]; first | done | omega)) | (with_reducible apply Turn.l) | (with_reducible apply Frz.l)) <;> conv => whnf) | fail)
              · have hL0 : 0 < L.length := by omega
                have e2 : ((L.length : Int) - 1).toNat = L.length - 1 := by omega
                by_cases h4 : gt L (L.length - 1) = gt w k
                · repeat' (first | ((apply Bif.of (clmV_eq _ _)); (conv => whnf)) | ((first | ((with_reducible apply Nm.mk); focus ((try simp only [lns, ipRows_take]); exact rfl)) | ((with_reducible apply Wr.i64); focus omega) | ((with_reducible apply Need.mk); focus first | omega | kernel_rfl) | ((with_reducible apply Elem.lst); focus omega) | (with_reducible first | apply Bif.T | apply Bif.F) | ((with_reducible first | apply Bif.dec | apply Bif.beq | apply Bif.bne) <;> intro h <;> (try simp only [lns, ipRows_take] at h) <;> (try first | (exfalso; omega) | (rw [e1] at h; exact absurd h1' h) | (rw [e1] at h; exact absurd h h2) | (rw [e2] at h; exact absurd h4 h))) | (with_reducible apply Bif.not) | (with_reducible apply Frz.l)) <;> conv => whnf) | fail)
                  (refine ⟨⟨(k + 1, R, L), hM.same hkl hw hR0 h1 (.inr ⟨hL0, h4⟩), hkl, by dsimp only; omega, by dsimp only; omega⟩, ?_⟩; (try dsimp only); conv => whnf); repeat' (first | with_reducible apply True.intro | ((first | ((with_reducible apply Need.mk); focus omega) | (with_reducible apply Same.rfl) | (apply Same.int; focus rfl) | (with_reducible apply Turn.l) | (with_reducible apply Frz.l)) <;> conv => whnf) | fail)
                · repeat' (first | ((apply Bif.of (clmV_eq _ _)); (conv => whnf)) | ((first | (with_reducible apply Nm.snoc _ (clm_mk _ _ _ _ _)) | ((with_reducible apply Nm.mk); focus ((try simp only [lns, ipRows_take]); exact rfl)) | ((with_reducible apply Wr.i64); focus omega) | ((with_reducible apply Need.mk); focus first | omega | (simp only [lns, ipRows_take]; omega) | kernel_rfl | (unfold roomOK; simp only [lns, ipRows_take]; omega)) | ((with_reducible apply Elem.lst); focus omega) | (with_reducible first | apply Bif.T | apply Bif.F) | ((with_reducible first | apply Bif.dec | apply Bif.beq | apply Bif.bne) <;> intro h <;> (try simp only [lns, ipRows_take] at h) <;> (try first | (exfalso; omega) | (rw [e1] at h; exact absurd h1' h) | (rw [e1] at h; exact absurd h h2) | (rw [e2] at h; exact absurd h h4))) | (with_reducible apply Bif.not) | (with_reducible apply Alt.l) | (with_reducible apply Frz.l)) <;> conv => whnf) | fail)
                  (refine ⟨⟨(k + 1, R, L ++ [gt w k]), hM.more hkl hw hR0 h1 h2 (.inr h4), hkl, by dsimp only; omega, by simp; omega⟩, ?_⟩; (try dsimp only); conv => whnf); repeat' (first | with_reducible apply True.intro | ((first | ((with_reducible apply Need.mk); focus omega) | (with_reducible apply Same.rfl) | (apply Same.int; focus rfl) | (apply Same.ov; (focus rfl); focus (simp only [lns, ipRows_take]; first | done | omega)) | (with_reducible apply Turn.l) | (with_reducible apply Frz.l)) <;> conv => whnf) | fail)
          · have h1' : ¬ (gt R (R.length - 1)).ip.1 = (gt w k).ip.1 := fun h => h1 (ip_ext h)
            repeat' (first | ((first | (with_reducible apply Nm.snoc _ (clm_mk _ _ _ _ _)) | ((with_reducible apply Nm.mk); focus ((try simp only [lns, ipRows_take]); exact rfl)) | ((with_reducible apply Wr.i64); focus omega) | ((with_reducible apply Need.mk); focus first | omega | (simp only [lns, ipRows_take]; omega) | kernel_rfl | (unfold roomOK; simp only [lns, ipRows_take]; omega)) | ((with_reducible apply Elem.lst); focus omega) | (with_reducible apply Bif.F) | ((with_reducible first | apply Bif.dec | apply Bif.beq) <;> intro h <;> (try simp only [lns, ipRows_take] at h) <;> (try first | (exfalso; omega) | (rw [e1] at h; exact absurd h h1'))) | (with_reducible apply Bif.not) | (with_reducible apply Alt.l) | (with_reducible apply Frz.l)) <;> conv => whnf) | fail)
            (refine ⟨⟨(k + 1, R ++ [gt w k], L), hM.new hkl hw (.inr h1), hkl, by simp; omega, by dsimp only; omega⟩, ?_⟩; (try dsimp only); conv => whnf); repeat' (first | with_reducible apply True.intro | ((first | ((with_reducible apply Need.mk); focus omega) | (with_reducible apply Same.rfl) | (apply Same.int; focus rfl) | (apply Same.ov; (focus rfl); focus (simp only [lns, ipRows_take]; first | done | omega)) | (with_reducible apply Turn.l) | (with_reducible apply Frz.l)) <;> conv => whnf) | fail)
      · have hkE : k = w.length := by omega
        subst hkE
        rw [List.take_length] at hM
        have hE := mrgP_eq (hM.congr hr.mem)
        rw [hE]
        by_cases h64 : R.length > 64
        · simp only [mrgE, if_pos h64]
          repeat' (first | with_reducible apply True.intro | ((first | ((with_reducible apply Bif.dec) <;> intro h <;> (try simp only [lns, ipRows_take] at h) <;> (try (exfalso; omega))) | (with_reducible apply Same.rfl) | (apply Same.int; focus rfl) | (apply Same.rfl) | (with_reducible apply Frz.l)) <;> conv => whnf) | fail)
        · simp only [mrgE, if_neg h64]
          repeat' (first | with_reducible apply True.intro | ((first | ((with_reducible apply Bif.dec) <;> intro h <;> (try simp only [lns, ipRows_take] at h) <;> (try (exfalso; omega))) | (with_reducible apply Same.rfl) | (apply Same.int; focus rfl) | (with_reducible apply Cut.l) | (with_reducible apply Frz.l)) <;> conv => whnf) | fail)
    · simp only [mergeM, if_pos hv, if_neg hn]
      refine spec_of_run ttok mixed (T0 := 4951760159447382216430088135) (ts := [.tmp 6, .tmp 7, .tmp 8]) 95 rfl rfl rfl rfl (by simp) rfl ?_
      conv => whnf
      repeat' (first | with_reducible apply True.intro | ((first | (apply CallN.mk (k_Valid a .no hla)) | (apply CallN.mk (k_Valid b .no hlb)) | (apply CallN.mk (k_isTime _)) | (with_reducible apply Bif.F) | ((with_reducible apply Bif.dec) <;> intro h <;> (try simp only [lns, ipRows_take] at h) <;> (try (exfalso; omega))) | (with_reducible apply Bif.not) | ((with_reducible apply Bif.mk) <;> intro h <;> (try (simp_all; done))) | (with_reducible apply Same.rfl) | (apply Same.int; focus rfl) | (apply Same.rfl) | (with_reducible apply Frz.l)) <;> conv => whnf) | fail)
  · simp only [mergeM, if_neg hv]
    refine spec_of_run ttok mixed (T0 := 4951760159447382216430088135) (ts := [.tmp 6, .tmp 7, .tmp 8]) 95 rfl rfl rfl rfl (by simp) rfl ?_
    conv => whnf
    repeat' (first | with_reducible apply True.intro | ((first | (apply CallN.mk (k_Valid a .no hla)) | (apply CallN.mk (k_Valid b .no hlb)) | (with_reducible first | apply Bif.T | apply Bif.F) | (with_reducible apply Bif.not) | ((with_reducible apply Bif.mk) <;> intro h <;> (try (simp_all; done))) | (with_reducible apply Same.rfl) | (apply Same.int; focus rfl) | (apply Same.rfl) | (with_reducible apply Frz.l)) <;> conv => whnf) | fail)
theorem k_Merge (a b : List Clm) (t1 t2 : Tg) (now : Int) (hla : a.length ≤ 1000000) (hlb : b.length ≤ 1000000) :
    Con Tryz.prog 35 [.fs t1 20 (lst clmV a), .fs t2 20 (lst clmV b), int now] [] (.tup [.ov 20 0 0 (mergeM a b now).1.length, .ov 20 1 0 (mergeM a b now).2.1.length, int (mergeM a b now).2.2]) [.arr none 20 (lst clmV (mergeM a b now).1), .arr none 20 (lst clmV (mergeM a b now).2.1)] :=
  (k_MergeN a b now hla hlb).le ⟨ArgLe.fs, ArgLe.fs, ArgLe.rfl, True.intro⟩
end Go.Fw

/- The reference's Merge. -/
namespace Go.Fw
open Go.Proofs
set_option maxHeartbeats 4000000
set_option maxRecDepth 4000
end Go.Fw
