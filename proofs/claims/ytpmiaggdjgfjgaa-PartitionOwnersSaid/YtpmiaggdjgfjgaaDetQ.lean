/- The reference's Merge. -/
import Derived.Test.YtpmiaggdjgfjgaaDetP
namespace Go.Fw
open Go.Proofs
set_option maxHeartbeats 4000000
set_option maxRecDepth 4000
theorem Sub.gone {n : Sz} {e : List (Nat × SV)} {h : List OB} (k : Nat) {x : Option Nat} {E : Nat} {rows : List SV} (hk : h[k]? = some (.arr x E rows)) : Sub n e h e (h.set k .gone) := by
  intro B cx a w hB hs
  exact ⟨cx, hs.df, hs.sz, hs.sl, mem_turn hs.mem hk (by simp) trivial, hs.fr⟩
/-- Ahead of a loop: an array is given up. -/
theorem LoopN.gone {P : Program} {n : Sz} {c : Code} {e : List (Nat × SV)} {h : List OB} {K : Exit → List (Nat × SV) → List OB → Prop} (k : Nat) {x : Option Nat} {E : Nat} {rows : List SV} (hk : h[k]? = some (.arr x E rows))
    (hl : LoopN P n c e (h.set k .gone) K) : LoopN P n c e h K := by
  rw [loopN_iff] at hl ⊢
  obtain ⟨x, e', h', h1, h2⟩ := hl
  refine ⟨x, e', h', h1, fun B cx a w Q hB hs hK => ?_⟩
  obtain ⟨cx1, hs1⟩ := Sub.gone (n := n) (e := e) k hk B cx a w hB hs
  exact h2 B cx1 a w Q hB hs1 hK
theorem k_refMergeN (a b : List Clm) (now : Int) (hla : a.length ≤ 1000) (hlb : b.length ≤ 1000) :
    Con Try.prog 64 [.fs .no 20 (lst clmV a), .fs .no 20 (lst clmV b), int now] [] (.tup [.ov 20 0 0 (mergeM a b now).1.length, .ov 20 1 0 (mergeM a b now).2.1.length, int (mergeM a b now).2.2]) [.arr none 20 (lst clmV (mergeM a b now).1), .arr none 20 (lst clmV (mergeM a b now).2.1)] := by
  by_cases hv : validR a = true ∧ validR b = true
  · by_cases hn : 0 ≤ now ∧ now ≤ 1099511627776
    · have c1 := cur_len a now
      have c2 := cur_len b now
      have v1 := validR_len hv.1
      have v2 := validR_len hv.2
      obtain ⟨s, hs⟩ : ∃ s, s = cur a now ++ cur b now := ⟨_, rfl⟩
      have el : (cur a now).length + (cur b now).length = s.length := by rw [hs, List.length_append]
      simp only [mergeM, if_pos hv, if_pos hn]
      refine spec_of_run ttok mixed (T0 := 170307489087936634629539218046655576007) (ts := [.tmp 6, .tmp 7, .tmp 8]) 130 rfl rfl rfl rfl (by simp) rfl ?_
      conv => whnf
      repeat' (first | ((first | ((with_reducible apply Nm.mk); focus ((try simp only [lns, ipRows_take]); exact rfl)) | ((with_reducible apply Need.mk); focus first | (simp only [lns, ipRows_take]; omega) | (unfold roomOK; simp only [lns, ipRows_take]; omega)) | (apply CallN.mk (k_refValid a .no (by omega))) | (apply CallN.mk (k_refValid b .no (by omega))) | (apply CallN.mk (k_IsTime _)) | (apply CallN.mk (k_refCurrent a .no now (by omega))) | (apply CallN.mk (k_refCurrent b .no now (by omega))) | (with_reducible apply Bif.F) | ((with_reducible apply Bif.dec) <;> intro h <;> (try simp only [lns, ipRows_take] at h) <;> (try (exfalso; omega))) | (with_reducible apply Bif.not) | ((with_reducible apply Bif.mk) <;> intro h <;> (try (simp_all; done))) | (with_reducible apply Alt.l)) <;> conv => whnf) | fail)
      rw [el, ← hs]
      refine LoopN.gone 1 rfl ?_
      refine LoopN.adopt 9 20 rfl (by simp) ?_
      refine LoopN.adopt 10 20 rfl (by simp) ?_
      refine loop_keep ttok mixed (T0 := 170307489087936634629539218046655576007) [0, 1, 2, 40, 41] (ι := {p : Nat × List Clm × List Clm // PasOK s p.2.1 p.2.2 p.1 ∧ p.1 ≤ s.length ∧ p.2.1.length ≤ p.1 ∧ p.2.2.length ≤ p.1})
        (fun p => [(9, .ov 20 2 0 p.1.2.1.length), (10, .ov 20 3 0 p.1.2.2.length), (42, int (p.1.1 : Int))]) (fun p => [.arr none 20 (lst clmV s), .gone, .arr none 20 (lst clmV p.1.2.1), .arr none 20 (lst clmV p.1.2.2)]) (fun p => s.length - p.1.1) ⟨(0, [], []), PasOK.start _, Nat.zero_le _, Nat.zero_le _, Nat.zero_le _⟩ ?_
      conv => whnf
      repeat' (first | ((first | (with_reducible apply Same.rfl) | (apply Same.int; focus rfl) | (apply Same.ov; (focus rfl); focus rfl) | (apply Same.rfl)) <;> conv => whnf) | fail)
      rintro ⟨⟨k, R, L⟩, hM, hk, hR, hL⟩
      dsimp only at hM hk hR hL ⊢
      conv => whnf
      by_cases hkl : k < s.length
      · have kb := k_refBest a b .no .no now (gt s k).ip hla hlb
        rw [← hs] at kb
        repeat' (first | ((first | ((with_reducible apply Nm.mk); focus ((try simp only [lns, ipRows_take]); exact rfl)) | ((with_reducible apply Need.mk); focus omega) | ((with_reducible apply Elem.lst); focus omega) | (refine CallN.ex (kb) ?_; rintro _ _ ⟨x, f, hx, rfl, rfl⟩) | ((with_reducible apply Bif.dec) <;> intro h <;> (try simp only [lns, ipRows_take] at h) <;> (try (exfalso; omega)))) <;> conv => whnf) | fail)
        have hx := hx ⟨gt s k, gt_mem hkl, rfl⟩
        obtain ⟨hx, hxi⟩ := hx
        obtain ⟨P, hP⟩ : ∃ P : Clm → Bool, P = fun z => !decide (z = gt s k) && decide (cmpC z (gt s k) < 0) := ⟨_, rfl⟩
        obtain ⟨Q, hQ⟩ : ∃ Q : Clm → Bool, Q = fun z => !decide (z = gt s k) && !decide (cmpC z (gt s k) < 0) := ⟨_, rfl⟩
        obtain ⟨A, hA⟩ : ∃ A : Clm → Bool, A = fun z => decide (z.ip = (gt s k).ip) := ⟨_, rfl⟩
        have hst := hM.step hkl hx hxi
        refine loop_keep ttok mixed (T0 := 170307489087936634629539218046655576007) [0, 1, 2, 40, 41, 42, 9, 10, 12, 13, 55, 56] (ι := {j : Nat // j ≤ R.length})
          (fun j => [(15, bool ((R.take j.1).any A)), (57, int (j.1 : Int))]) (fun _ => [.arr none 20 (lst clmV s), .gone, .arr none 20 (lst clmV R), .arr none 20 (lst clmV L), .cells (clmV (gt s k)), .cells (clmV x)]) (fun j => R.length - j.1) ⟨0, Nat.zero_le _⟩ ?_
        conv => whnf
        repeat' (first | ((first | (with_reducible apply Same.rfl) | (apply Same.int; focus rfl) | (apply Same.rfl)) <;> conv => whnf) | fail)
        rintro ⟨j, hj⟩
        dsimp only
        conv => whnf
        by_cases hjl : j < R.length
        · have fs : (R.take (j + 1)).any A = ((R.take j).any A || A (gt R j)) := by rw [take_gt hjl, List.any_append]; simp
          cases ha : (R.take j).any A
          · rw [ha, Bool.false_or] at fs
            have hq : A (gt R j) = ((gt R j).ip.1 == (gt s k).ip.1) := by rw [hA, ip_beq]
            repeat' (first | ((first | ((with_reducible apply Nm.mk); focus ((try simp only [lns, ipRows_take]); exact rfl)) | ((with_reducible apply Wr.i64); focus omega) | ((with_reducible apply Need.mk); focus omega) | ((with_reducible apply Elem.lst); focus omega) | (with_reducible apply Bif.F) | ((with_reducible apply Bif.dec) <;> intro h <;> (try simp only [lns, ipRows_take] at h) <;> (try (exfalso; omega)))) <;> conv => whnf) | fail)
            (refine ⟨⟨j + 1, hjl⟩, ?_⟩; (try dsimp only); conv => whnf); repeat' (first | with_reducible apply True.intro | ((with_reducible apply Same.mk); (exact congrArg bool (fs.trans hq).symm); (conv => whnf)) | ((first | ((with_reducible apply Need.mk); focus omega) | (with_reducible apply Same.rfl) | (apply Same.int; focus rfl) | (with_reducible apply Turn.l)) <;> conv => whnf) | fail)
          · rw [ha, Bool.true_or] at fs
            repeat' (first | ((first | ((with_reducible apply Nm.mk); focus ((try simp only [lns, ipRows_take]); exact rfl)) | ((with_reducible apply Wr.i64); focus omega) | ((with_reducible apply Need.mk); focus omega) | ((with_reducible apply Elem.lst); focus omega) | (with_reducible apply Bif.T) | ((with_reducible apply Bif.dec) <;> intro h <;> (try simp only [lns, ipRows_take] at h) <;> (try (exfalso; omega)))) <;> conv => whnf) | fail)
            (refine ⟨⟨j + 1, hjl⟩, ?_⟩; (try dsimp only); conv => whnf); repeat' (first | with_reducible apply True.intro | ((with_reducible apply Same.mk); (exact congrArg bool fs.symm); (conv => whnf)) | ((first | ((with_reducible apply Need.mk); focus omega) | (with_reducible apply Same.rfl) | (apply Same.int; focus rfl) | (with_reducible apply Turn.l)) <;> conv => whnf) | fail)
        · have hjE : j = R.length := by omega
          subst hjE
          rw [List.take_length]
          cases ha : R.any A
          · have ho : outM R (gt s k) x = insM R x := by unfold outM; rw [← hA, ha]; simp
            have hol : (insM R x).length ≤ R.length + 1 := by rw [← ho]; exact outM_len _ _ _
            by_cases he : (gt s k).eui = x.eui
            · have hl : lostM L (gt s k) x = L := if_pos he
              rw [ho, hl] at hst
              repeat' (first | ((first | ((with_reducible apply Nm.mk); focus ((try simp only [lns, ipRows_take]); exact rfl)) | ((with_reducible apply Wr.i64); focus omega) | ((with_reducible apply Need.mk); focus first | (simp only [lns, ipRows_take]; omega) | exact CleanP.lst rfl (fun _ => rfl)) | (apply CallN.mk (k_refInsert R .no x (by omega))) | (with_reducible apply Bif.F) | ((with_reducible first | apply Bif.dec | apply Bif.beq) <;> intro h <;> (try simp only [lns, ipRows_take] at h) <;> (try (exfalso; omega))) | (with_reducible apply Bif.not) | (with_reducible apply GiveN.lend)) <;> conv => whnf) | fail)
              (refine ⟨⟨(k + 1, insM R x, L), hst, hkl, by dsimp only; omega, by dsimp only; omega⟩, ?_⟩; (try dsimp only); conv => whnf); repeat' (first | with_reducible apply True.intro | ((with_reducible apply Turn.r); (conv => whnf)) | ((first | ((with_reducible apply Need.mk); focus omega) | (with_reducible apply Same.rfl) | (apply Same.int; focus rfl) | (with_reducible apply Cut.l)) <;> conv => whnf) | fail)
            · have hl : lostM L (gt s k) x = L.filter P ++ [gt s k] ++ L.filter Q := by rw [hP, hQ]; exact if_neg he
              rw [ho, hl] at hst
              have hll : (L.filter P ++ [gt s k] ++ L.filter Q).length ≤ L.length + 1 := by rw [← hl]; exact lostM_len _ _ _
              repeat' (first | ((first | ((with_reducible apply Nm.mk); focus ((try simp only [lns, ipRows_take]); exact rfl)) | ((with_reducible apply Need.mk); focus first | (simp only [lns, ipRows_take]; omega) | exact CleanP.lst rfl (fun _ => rfl)) | (apply CallN.mk (k_refInsert R .no x (by omega))) | (with_reducible apply Bif.F) | ((with_reducible first | apply Bif.dec | apply Bif.beq) <;> intro h <;> (try simp only [lns, ipRows_take] at h) <;> (try (exfalso; omega))) | (with_reducible apply Bif.not) | (with_reducible apply GiveN.lend)) <;> conv => whnf) | fail)
              refine LoopN.adopt 18 20 rfl (by simp) ?_
              refine loop_keep ttok mixed (T0 := 170307489087936634629539218046655576007) [0, 1, 2, 40, 41, 42, 9, 10, 12, 13, 80, 81] (ι := {j : Nat // j ≤ L.length})
                (fun j => [(18, .ov 20 7 0 ((L.take j.1).filter P).length), (82, int (j.1 : Int))]) (fun j => [.arr none 20 (lst clmV s), .gone, .arr none 20 (lst clmV R), .arr none 20 (lst clmV L), .cells (clmV (gt s k)), .cells (clmV x), .arr none 20 (lst clmV (insM R x)), .arr none 20 (lst clmV ((L.take j.1).filter P))]) (fun j => L.length - j.1) ⟨0, Nat.zero_le _⟩ ?_
              conv => whnf
              repeat' (first | ((first | (with_reducible apply Same.rfl) | (apply Same.int; focus rfl) | (apply Same.ov; (focus rfl); focus rfl) | (apply Same.rfl)) <;> conv => whnf) | fail)
              rintro ⟨j, hj⟩
              dsimp only
              have f1 : ((L.take j).filter P).length ≤ L.length := Nat.le_trans (List.length_filter_le _ _) (by rw [List.length_take]; omega)
              conv => whnf
              by_cases hjl : j < L.length
              · have fs := filter_snoc (p := P) hjl
                by_cases g1 : gt L j = gt s k
                · have g3 : P (gt L j) = false := by rw [hP]; simp [g1]
                  rw [g3, if_neg (by simp), List.append_nil] at fs
                  repeat' (first | ((apply Bif.of (clmV_eq _ _)); (conv => whnf)) | ((first | ((with_reducible apply Nm.mk); focus ((try simp only [lns, ipRows_take]); exact rfl)) | ((with_reducible apply Wr.i64); focus omega) | ((with_reducible apply Need.mk); focus omega) | ((with_reducible apply Elem.lst); focus omega) | (with_reducible apply Bif.F) | ((with_reducible apply Bif.dec) <;> intro h <;> (try simp only [lns, ipRows_take] at h) <;> (try first | (exfalso; omega) | (exact absurd g1 h))) | (with_reducible apply Bif.not)) <;> conv => whnf) | fail)
                  (refine ⟨⟨j + 1, hjl⟩, ?_⟩; (try dsimp only); conv => whnf); repeat' (first | with_reducible apply True.intro | ((with_reducible apply Same.mk); (focus (first | (rw [fs]; done) | fail)); (conv => whnf)) | ((first | ((with_reducible apply Need.mk); focus omega) | (with_reducible apply Same.rfl) | (apply Same.int; focus rfl) | (with_reducible apply Turn.l)) <;> conv => whnf) | fail)
                · by_cases g2 : cmpC (gt L j) (gt s k) < 0
                  · have g3 : P (gt L j) = true := by rw [hP]; simp [g1, g2]
                    rw [g3, if_pos rfl] at fs
                    have fl := congrArg List.length fs
                    rw [List.length_append, List.length_singleton] at fl
                    repeat' (first | ((apply Bif.of (clmV_eq _ _)); (conv => whnf)) | ((first | (with_reducible apply Nm.snoc _ (clm_mk _ _ _ _ _)) | ((with_reducible apply Nm.mk); focus ((try simp only [lns, ipRows_take]); exact rfl)) | ((with_reducible apply Wr.i64); focus omega) | ((with_reducible apply Need.mk); focus first | omega | (simp only [lns, ipRows_take]; omega) | (unfold roomOK; simp only [lns, ipRows_take]; omega)) | ((with_reducible apply Elem.lst); focus omega) | (apply CallN.mk (k_refBefore _ _)) | (with_reducible apply Bif.T) | ((with_reducible apply Bif.dec) <;> intro h <;> (try simp only [lns, ipRows_take] at h) <;> (try first | (exfalso; omega) | (exact absurd h g1))) | (with_reducible apply Bif.not) | (with_reducible apply Alt.l)) <;> conv => whnf) | fail)
                    (refine ⟨⟨j + 1, hjl⟩, ?_⟩; (try dsimp only); conv => whnf); repeat' (first | with_reducible apply True.intro | ((with_reducible apply Same.mk); (focus (first | (rw [fs]; done) | (rw [fs]; rfl) | fail)); (conv => whnf)) | ((first | ((with_reducible apply Need.mk); focus omega) | (with_reducible apply Same.rfl) | (apply Same.int; focus rfl) | (apply Same.ov; (focus rfl); focus omega) | (with_reducible apply Turn.l)) <;> conv => whnf) | fail)
                  · have g3 : P (gt L j) = false := by rw [hP]; simp [g2]
                    rw [g3, if_neg (by simp), List.append_nil] at fs
                    repeat' (first | ((apply Bif.of (clmV_eq _ _)); (conv => whnf)) | ((first | ((with_reducible apply Nm.mk); focus ((try simp only [lns, ipRows_take]); exact rfl)) | ((with_reducible apply Wr.i64); focus omega) | ((with_reducible apply Need.mk); focus omega) | ((with_reducible apply Elem.lst); focus omega) | (apply CallN.mk (k_refBefore _ _)) | (with_reducible apply Bif.T) | ((with_reducible apply Bif.dec) <;> intro h <;> (try simp only [lns, ipRows_take] at h) <;> (try first | (exfalso; omega) | (exact absurd h g1))) | (with_reducible apply Bif.not)) <;> conv => whnf) | fail)
                    (refine ⟨⟨j + 1, hjl⟩, ?_⟩; (try dsimp only); conv => whnf); repeat' (first | with_reducible apply True.intro | ((with_reducible apply Same.mk); (focus (first | (rw [fs]; done) | fail)); (conv => whnf)) | ((first | ((with_reducible apply Need.mk); focus omega) | (with_reducible apply Same.rfl) | (apply Same.int; focus rfl) | (with_reducible apply Turn.l)) <;> conv => whnf) | fail)
              · have hjE : j = L.length := by omega
                subst hjE
                rw [List.take_length] at f1 ⊢
                repeat' (first | ((first | (with_reducible apply Nm.snoc _ (clm_mk _ _ _ _ _)) | ((with_reducible apply Nm.mk); focus ((try simp only [lns, ipRows_take]); exact rfl)) | ((with_reducible apply Need.mk); focus first | (simp only [lns, ipRows_take]; omega) | (unfold roomOK; simp only [lns, ipRows_take]; omega)) | ((with_reducible apply Bif.dec) <;> intro h <;> (try simp only [lns, ipRows_take] at h) <;> (try (exfalso; omega))) | (with_reducible apply Alt.l)) <;> conv => whnf) | fail)
                refine loop_keep ttok mixed (T0 := 170307489087936634629539218046655576007) [0, 1, 2, 40, 41, 42, 9, 10, 12, 13, 103, 104] (ι := {j : Nat // j ≤ L.length})
                  (fun j => [(18, .ov 20 7 0 (L.filter P ++ [gt s k] ++ (L.take j.1).filter Q).length), (105, int (j.1 : Int))]) (fun j => [.arr none 20 (lst clmV s), .gone, .arr none 20 (lst clmV R), .arr none 20 (lst clmV L), .cells (clmV (gt s k)), .cells (clmV x), .arr none 20 (lst clmV (insM R x)), .arr none 20 (lst clmV (L.filter P ++ [gt s k] ++ (L.take j.1).filter Q))]) (fun j => L.length - j.1) ⟨0, Nat.zero_le _⟩ ?_
                conv => whnf
                repeat' (first | ((with_reducible apply Same.mk); (focus (first | (simp; done) | fail)); (conv => whnf)) | ((apply Same.int; focus rfl) <;> conv => whnf) | fail)
                rintro ⟨j, hj⟩
                dsimp only
                obtain ⟨F, hF⟩ : ∃ F, F = L.filter P ++ [gt s k] ++ (L.take j).filter Q := ⟨_, rfl⟩
                have f2 : F.length ≤ 2 * L.length + 1 := by
                  have f3 : ((L.take j).filter Q).length ≤ L.length := Nat.le_trans (List.length_filter_le _ _) (by rw [List.length_take]; omega)
                  rw [hF]
                  simp only [List.length_append, List.length_singleton]
                  omega
                rw [← hF]
                conv => whnf
                by_cases hjl : j < L.length
                · have fs : L.filter P ++ [gt s k] ++ (L.take (j + 1)).filter Q = F ++ if Q (gt L j) = true then [gt L j] else [] := by rw [filter_snoc (p := Q) hjl, hF]; simp only [List.append_assoc]
                  by_cases g1 : gt L j = gt s k
                  · have g3 : Q (gt L j) = false := by rw [hQ]; simp [g1]
                    rw [g3, if_neg (by simp), List.append_nil] at fs
                    repeat' (first | ((apply Bif.of (clmV_eq _ _)); (conv => whnf)) | ((first | ((with_reducible apply Nm.mk); focus ((try simp only [lns, ipRows_take]); exact rfl)) | ((with_reducible apply Wr.i64); focus omega) | ((with_reducible apply Need.mk); focus omega) | ((with_reducible apply Elem.lst); focus omega) | (with_reducible apply Bif.F) | ((with_reducible apply Bif.dec) <;> intro h <;> (try simp only [lns, ipRows_take] at h) <;> (try first | (exfalso; omega) | (exact absurd g1 h))) | (with_reducible apply Bif.not)) <;> conv => whnf) | fail)
                    (refine ⟨⟨j + 1, hjl⟩, ?_⟩; (try dsimp only); conv => whnf); repeat' (first | with_reducible apply True.intro | ((with_reducible apply Same.mk); (focus (first | (rw [fs]; done) | fail)); (conv => whnf)) | ((first | ((with_reducible apply Need.mk); focus omega) | (with_reducible apply Same.rfl) | (apply Same.int; focus rfl) | (with_reducible apply Turn.l)) <;> conv => whnf) | fail)
                  · by_cases g2 : cmpC (gt L j) (gt s k) < 0
                    · have g3 : Q (gt L j) = false := by rw [hQ]; simp [g2]
                      rw [g3, if_neg (by simp), List.append_nil] at fs
                      repeat' (first | ((apply Bif.of (clmV_eq _ _)); (conv => whnf)) | ((first | ((with_reducible apply Nm.mk); focus ((try simp only [lns, ipRows_take]); exact rfl)) | ((with_reducible apply Wr.i64); focus omega) | ((with_reducible apply Need.mk); focus omega) | ((with_reducible apply Elem.lst); focus omega) | (apply CallN.mk (k_refBefore _ _)) | (with_reducible apply Bif.T) | ((with_reducible apply Bif.dec) <;> intro h <;> (try simp only [lns, ipRows_take] at h) <;> (try first | (exfalso; omega) | (exact absurd h g1))) | (with_reducible apply Bif.not)) <;> conv => whnf) | fail)
                      (refine ⟨⟨j + 1, hjl⟩, ?_⟩; (try dsimp only); conv => whnf); repeat' (first | with_reducible apply True.intro | ((with_reducible apply Same.mk); (focus (first | (rw [fs]; done) | fail)); (conv => whnf)) | ((first | ((with_reducible apply Need.mk); focus omega) | (with_reducible apply Same.rfl) | (apply Same.int; focus rfl) | (with_reducible apply Turn.l)) <;> conv => whnf) | fail)
                    · have g3 : Q (gt L j) = true := by rw [hQ]; simp [g1, g2]
                      rw [g3, if_pos rfl] at fs
                      have fl := congrArg List.length fs
                      have fl2 : (F ++ [gt L j]).length = F.length + 1 := by simp
                      rw [fl2] at fl
                      repeat' (first | ((apply Bif.of (clmV_eq _ _)); (conv => whnf)) | ((first | (with_reducible apply Nm.snoc _ (clm_mk _ _ _ _ _)) | ((with_reducible apply Nm.mk); focus ((try simp only [lns, ipRows_take]); exact rfl)) | ((with_reducible apply Wr.i64); focus omega) | ((with_reducible apply Need.mk); focus first | omega | (simp only [lns, ipRows_take]; omega) | (unfold roomOK; simp only [lns, ipRows_take]; omega)) | ((with_reducible apply Elem.lst); focus omega) | (apply CallN.mk (k_refBefore _ _)) | (with_reducible apply Bif.T) | ((with_reducible apply Bif.dec) <;> intro h <;> (try simp only [lns, ipRows_take] at h) <;> (try first | (exfalso; omega) | (exact absurd h g1))) | (with_reducible apply Bif.not) | (with_reducible apply Alt.l)) <;> conv => whnf) | fail)
                      (refine ⟨⟨j + 1, hjl⟩, ?_⟩; (try dsimp only); conv => whnf); repeat' (first | with_reducible apply True.intro | ((with_reducible apply Same.mk); (focus (first | (rw [fs]; done) | (rw [fs]; rfl) | fail)); (conv => whnf)) | ((first | ((with_reducible apply Need.mk); focus omega) | (with_reducible apply Same.rfl) | (apply Same.int; focus rfl) | (apply Same.ov; (focus rfl); focus omega) | (with_reducible apply Turn.l)) <;> conv => whnf) | fail)
                · have hjE : j = L.length := by omega
                  subst hjE
                  rw [List.take_length] at hF
                  rw [hF]
                  repeat' (first | ((first | ((with_reducible apply Wr.i64); focus omega) | ((with_reducible apply Bif.dec) <;> intro h <;> (try simp only [lns, ipRows_take] at h) <;> (try (exfalso; omega)))) <;> conv => whnf) | fail)
                  (refine ⟨⟨(k + 1, insM R x, L.filter P ++ [gt s k] ++ L.filter Q), hst, hkl, by dsimp only; omega, by dsimp only; omega⟩, ?_⟩; (try dsimp only); conv => whnf); repeat' (first | with_reducible apply True.intro | ((with_reducible apply Turn.r); (conv => whnf)) | ((first | ((with_reducible apply Need.mk); focus omega) | (with_reducible apply Same.rfl) | (apply Same.int; focus rfl) | (with_reducible apply Cut.l)) <;> conv => whnf) | fail)
          · have ho : outM R (gt s k) x = R := by unfold outM; rw [← hA, ha]; simp
            by_cases he : (gt s k).eui = x.eui
            · have hl : lostM L (gt s k) x = L := if_pos he
              rw [ho, hl] at hst
              repeat' (first | ((first | ((with_reducible apply Wr.i64); focus omega) | (with_reducible apply Bif.T) | ((with_reducible first | apply Bif.dec | apply Bif.beq) <;> intro h <;> (try simp only [lns, ipRows_take] at h) <;> (try (exfalso; omega))) | (with_reducible apply Bif.not)) <;> conv => whnf) | fail)
              (refine ⟨⟨(k + 1, R, L), hst, hkl, by dsimp only; omega, by dsimp only; omega⟩, ?_⟩; (try dsimp only); conv => whnf); repeat' (first | with_reducible apply True.intro | ((with_reducible apply Turn.r); (conv => whnf)) | ((first | ((with_reducible apply Need.mk); focus omega) | (with_reducible apply Same.rfl) | (apply Same.int; focus rfl) | (with_reducible apply Cut.l)) <;> conv => whnf) | fail)
            · have hl : lostM L (gt s k) x = L.filter P ++ [gt s k] ++ L.filter Q := by rw [hP, hQ]; exact if_neg he
              rw [ho, hl] at hst
              have hll : (L.filter P ++ [gt s k] ++ L.filter Q).length ≤ L.length + 1 := by rw [← hl]; exact lostM_len _ _ _
              repeat' (first | ((first | (with_reducible apply Bif.T) | ((with_reducible first | apply Bif.dec | apply Bif.beq) <;> intro h <;> (try simp only [lns, ipRows_take] at h) <;> (try (exfalso; omega))) | (with_reducible apply Bif.not)) <;> conv => whnf) | fail)
              refine LoopN.adopt 18 20 rfl (by simp) ?_
              refine loop_keep ttok mixed (T0 := 170307489087936634629539218046655576007) [0, 1, 2, 40, 41, 42, 9, 10, 12, 13, 80, 81] (ι := {j : Nat // j ≤ L.length})
                (fun j => [(18, .ov 20 6 0 ((L.take j.1).filter P).length), (82, int (j.1 : Int))]) (fun j => [.arr none 20 (lst clmV s), .gone, .arr none 20 (lst clmV R), .arr none 20 (lst clmV L), .cells (clmV (gt s k)), .cells (clmV x), .arr none 20 (lst clmV ((L.take j.1).filter P))]) (fun j => L.length - j.1) ⟨0, Nat.zero_le _⟩ ?_
              conv => whnf
              repeat' (first | ((first | (with_reducible apply Same.rfl) | (apply Same.int; focus rfl) | (apply Same.ov; (focus rfl); focus rfl) | (apply Same.rfl)) <;> conv => whnf) | fail)
              rintro ⟨j, hj⟩
              dsimp only
              have f1 : ((L.take j).filter P).length ≤ L.length := Nat.le_trans (List.length_filter_le _ _) (by rw [List.length_take]; omega)
              conv => whnf
              by_cases hjl : j < L.length
              · have fs := filter_snoc (p := P) hjl
                by_cases g1 : gt L j = gt s k
                · have g3 : P (gt L j) = false := by rw [hP]; simp [g1]
                  rw [g3, if_neg (by simp), List.append_nil] at fs
                  repeat' (first | ((apply Bif.of (clmV_eq _ _)); (conv => whnf)) | ((first | ((with_reducible apply Nm.mk); focus ((try simp only [lns, ipRows_take]); exact rfl)) | ((with_reducible apply Wr.i64); focus omega) | ((with_reducible apply Need.mk); focus omega) | ((with_reducible apply Elem.lst); focus omega) | (with_reducible apply Bif.F) | ((with_reducible apply Bif.dec) <;> intro h <;> (try simp only [lns, ipRows_take] at h) <;> (try first | (exfalso; omega) | (exact absurd g1 h))) | (with_reducible apply Bif.not)) <;> conv => whnf) | fail)
                  (refine ⟨⟨j + 1, hjl⟩, ?_⟩; (try dsimp only); conv => whnf); repeat' (first | with_reducible apply True.intro | ((with_reducible apply Same.mk); (focus (first | (rw [fs]; done) | fail)); (conv => whnf)) | ((first | ((with_reducible apply Need.mk); focus omega) | (with_reducible apply Same.rfl) | (apply Same.int; focus rfl) | (with_reducible apply Turn.l)) <;> conv => whnf) | fail)
                · by_cases g2 : cmpC (gt L j) (gt s k) < 0
                  · have g3 : P (gt L j) = true := by rw [hP]; simp [g1, g2]
                    rw [g3, if_pos rfl] at fs
                    have fl := congrArg List.length fs
                    rw [List.length_append, List.length_singleton] at fl
                    repeat' (first | ((apply Bif.of (clmV_eq _ _)); (conv => whnf)) | ((first | (with_reducible apply Nm.snoc _ (clm_mk _ _ _ _ _)) | ((with_reducible apply Nm.mk); focus ((try simp only [lns, ipRows_take]); exact rfl)) | ((with_reducible apply Wr.i64); focus omega) | ((with_reducible apply Need.mk); focus first | omega | (simp only [lns, ipRows_take]; omega) | (unfold roomOK; simp only [lns, ipRows_take]; omega)) | ((with_reducible apply Elem.lst); focus omega) | (apply CallN.mk (k_refBefore _ _)) | (with_reducible apply Bif.T) | ((with_reducible apply Bif.dec) <;> intro h <;> (try simp only [lns, ipRows_take] at h) <;> (try first | (exfalso; omega) | (exact absurd h g1))) | (with_reducible apply Bif.not) | (with_reducible apply Alt.l)) <;> conv => whnf) | fail)
                    (refine ⟨⟨j + 1, hjl⟩, ?_⟩; (try dsimp only); conv => whnf); repeat' (first | with_reducible apply True.intro | ((with_reducible apply Same.mk); (focus (first | (rw [fs]; done) | (rw [fs]; rfl) | fail)); (conv => whnf)) | ((first | ((with_reducible apply Need.mk); focus omega) | (with_reducible apply Same.rfl) | (apply Same.int; focus rfl) | (apply Same.ov; (focus rfl); focus omega) | (with_reducible apply Turn.l)) <;> conv => whnf) | fail)
                  · have g3 : P (gt L j) = false := by rw [hP]; simp [g2]
                    rw [g3, if_neg (by simp), List.append_nil] at fs
                    repeat' (first | ((apply Bif.of (clmV_eq _ _)); (conv => whnf)) | ((first | ((with_reducible apply Nm.mk); focus ((try simp only [lns, ipRows_take]); exact rfl)) | ((with_reducible apply Wr.i64); focus omega) | ((with_reducible apply Need.mk); focus omega) | ((with_reducible apply Elem.lst); focus omega) | (apply CallN.mk (k_refBefore _ _)) | (with_reducible apply Bif.T) | ((with_reducible apply Bif.dec) <;> intro h <;> (try simp only [lns, ipRows_take] at h) <;> (try first | (exfalso; omega) | (exact absurd h g1))) | (with_reducible apply Bif.not)) <;> conv => whnf) | fail)
                    (refine ⟨⟨j + 1, hjl⟩, ?_⟩; (try dsimp only); conv => whnf); repeat' (first | with_reducible apply True.intro | ((with_reducible apply Same.mk); (focus (first | (rw [fs]; done) | fail)); (conv => whnf)) | ((first | ((with_reducible apply Need.mk); focus omega) | (with_reducible apply Same.rfl) | (apply Same.int; focus rfl) | (with_reducible apply Turn.l)) <;> conv => whnf) | fail)
              · have hjE : j = L.length := by omega
                subst hjE
                rw [List.take_length] at f1 ⊢
                repeat' (first | ((first | (with_reducible apply Nm.snoc _ (clm_mk _ _ _ _ _)) | ((with_reducible apply Nm.mk); focus ((try simp only [lns, ipRows_take]); exact rfl)) | ((with_reducible apply Need.mk); focus first | (simp only [lns, ipRows_take]; omega) | (unfold roomOK; simp only [lns, ipRows_take]; omega)) | ((with_reducible apply Bif.dec) <;> intro h <;> (try simp only [lns, ipRows_take] at h) <;> (try (exfalso; omega))) | (with_reducible apply Alt.l)) <;> conv => whnf) | fail)
                refine loop_keep ttok mixed (T0 := 170307489087936634629539218046655576007) [0, 1, 2, 40, 41, 42, 9, 10, 12, 13, 103, 104] (ι := {j : Nat // j ≤ L.length})
                  (fun j => [(18, .ov 20 6 0 (L.filter P ++ [gt s k] ++ (L.take j.1).filter Q).length), (105, int (j.1 : Int))]) (fun j => [.arr none 20 (lst clmV s), .gone, .arr none 20 (lst clmV R), .arr none 20 (lst clmV L), .cells (clmV (gt s k)), .cells (clmV x), .arr none 20 (lst clmV (L.filter P ++ [gt s k] ++ (L.take j.1).filter Q))]) (fun j => L.length - j.1) ⟨0, Nat.zero_le _⟩ ?_
                conv => whnf
                repeat' (first | ((with_reducible apply Same.mk); (focus (first | (simp; done) | fail)); (conv => whnf)) | ((apply Same.int; focus rfl) <;> conv => whnf) | fail)
                rintro ⟨j, hj⟩
                dsimp only
                obtain ⟨F, hF⟩ : ∃ F, F = L.filter P ++ [gt s k] ++ (L.take j).filter Q := ⟨_, rfl⟩
                have f2 : F.length ≤ 2 * L.length + 1 := by
                  have f3 : ((L.take j).filter Q).length ≤ L.length := Nat.le_trans (List.length_filter_le _ _) (by rw [List.length_take]; omega)
                  rw [hF]
                  simp only [List.length_append, List.length_singleton]
                  omega
                rw [← hF]
                conv => whnf
                by_cases hjl : j < L.length
                · have fs : L.filter P ++ [gt s k] ++ (L.take (j + 1)).filter Q = F ++ if Q (gt L j) = true then [gt L j] else [] := by rw [filter_snoc (p := Q) hjl, hF]; simp only [List.append_assoc]
                  by_cases g1 : gt L j = gt s k
                  · have g3 : Q (gt L j) = false := by rw [hQ]; simp [g1]
                    rw [g3, if_neg (by simp), List.append_nil] at fs
                    repeat' (first | ((apply Bif.of (clmV_eq _ _)); (conv => whnf)) | ((first | ((with_reducible apply Nm.mk); focus ((try simp only [lns, ipRows_take]); exact rfl)) | ((with_reducible apply Wr.i64); focus omega) | ((with_reducible apply Need.mk); focus omega) | ((with_reducible apply Elem.lst); focus omega) | (with_reducible apply Bif.F) | ((with_reducible apply Bif.dec) <;> intro h <;> (try simp only [lns, ipRows_take] at h) <;> (try first | (exfalso; omega) | (exact absurd g1 h))) | (with_reducible apply Bif.not)) <;> conv => whnf) | fail)
                    (refine ⟨⟨j + 1, hjl⟩, ?_⟩; (try dsimp only); conv => whnf); repeat' (first | with_reducible apply True.intro | ((with_reducible apply Same.mk); (focus (first | (rw [fs]; done) | fail)); (conv => whnf)) | ((first | ((with_reducible apply Need.mk); focus omega) | (with_reducible apply Same.rfl) | (apply Same.int; focus rfl) | (with_reducible apply Turn.l)) <;> conv => whnf) | fail)
                  · by_cases g2 : cmpC (gt L j) (gt s k) < 0
                    · have g3 : Q (gt L j) = false := by rw [hQ]; simp [g2]
                      rw [g3, if_neg (by simp), List.append_nil] at fs
                      repeat' (first | ((apply Bif.of (clmV_eq _ _)); (conv => whnf)) | ((first | ((with_reducible apply Nm.mk); focus ((try simp only [lns, ipRows_take]); exact rfl)) | ((with_reducible apply Wr.i64); focus omega) | ((with_reducible apply Need.mk); focus omega) | ((with_reducible apply Elem.lst); focus omega) | (apply CallN.mk (k_refBefore _ _)) | (with_reducible apply Bif.T) | ((with_reducible apply Bif.dec) <;> intro h <;> (try simp only [lns, ipRows_take] at h) <;> (try first | (exfalso; omega) | (exact absurd h g1))) | (with_reducible apply Bif.not)) <;> conv => whnf) | fail)
                      (refine ⟨⟨j + 1, hjl⟩, ?_⟩; (try dsimp only); conv => whnf); repeat' (first | with_reducible apply True.intro | ((with_reducible apply Same.mk); (focus (first | (rw [fs]; done) | fail)); (conv => whnf)) | ((first | ((with_reducible apply Need.mk); focus omega) | (with_reducible apply Same.rfl) | (apply Same.int; focus rfl) | (with_reducible apply Turn.l)) <;> conv => whnf) | fail)
                    · have g3 : Q (gt L j) = true := by rw [hQ]; simp [g1, g2]
                      rw [g3, if_pos rfl] at fs
                      have fl := congrArg List.length fs
                      have fl2 : (F ++ [gt L j]).length = F.length + 1 := by simp
                      rw [fl2] at fl
                      repeat' (first | ((apply Bif.of (clmV_eq _ _)); (conv => whnf)) | ((first | (with_reducible apply Nm.snoc _ (clm_mk _ _ _ _ _)) | ((with_reducible apply Nm.mk); focus ((try simp only [lns, ipRows_take]); exact rfl)) | ((with_reducible apply Wr.i64); focus omega) | ((with_reducible apply Need.mk); focus first | omega | (simp only [lns, ipRows_take]; omega) | (unfold roomOK; simp only [lns, ipRows_take]; omega)) | ((with_reducible apply Elem.lst); focus omega) | (apply CallN.mk (k_refBefore _ _)) | (with_reducible apply Bif.T) | ((with_reducible apply Bif.dec) <;> intro h <;> (try simp only [lns, ipRows_take] at h) <;> (try first | (exfalso; omega) | (exact absurd h g1))) | (with_reducible apply Bif.not) | (with_reducible apply Alt.l)) <;> conv => whnf) | fail)
                      (refine ⟨⟨j + 1, hjl⟩, ?_⟩; (try dsimp only); conv => whnf); repeat' (first | with_reducible apply True.intro | ((with_reducible apply Same.mk); (focus (first | (rw [fs]; done) | (rw [fs]; rfl) | fail)); (conv => whnf)) | ((first | ((with_reducible apply Need.mk); focus omega) | (with_reducible apply Same.rfl) | (apply Same.int; focus rfl) | (apply Same.ov; (focus rfl); focus omega) | (with_reducible apply Turn.l)) <;> conv => whnf) | fail)
                · have hjE : j = L.length := by omega
                  subst hjE
                  rw [List.take_length] at hF
                  rw [hF]
                  repeat' (first | ((first | ((with_reducible apply Wr.i64); focus omega) | ((with_reducible apply Bif.dec) <;> intro h <;> (try simp only [lns, ipRows_take] at h) <;> (try (exfalso; omega)))) <;> conv => whnf) | fail)
                  (refine ⟨⟨(k + 1, R, L.filter P ++ [gt s k] ++ L.filter Q), hst, hkl, by dsimp only; omega, by dsimp only; omega⟩, ?_⟩; (try dsimp only); conv => whnf); repeat' (first | with_reducible apply True.intro | ((with_reducible apply Turn.r); (conv => whnf)) | ((first | ((with_reducible apply Need.mk); focus omega) | (with_reducible apply Same.rfl) | (apply Same.int; focus rfl) | (with_reducible apply Cut.l)) <;> conv => whnf) | fail)
      · have hkE : k = s.length := by omega
        subst hkE
        have hE := mrgP_eq hM.done
        rw [hE]
        by_cases h64 : R.length > 64
        · simp only [mrgE, if_pos h64]
          repeat' (first | with_reducible apply True.intro | ((first | ((with_reducible apply Bif.dec) <;> intro h <;> (try simp only [lns, ipRows_take] at h) <;> (try (exfalso; omega))) | (with_reducible apply Same.rfl) | (apply Same.int; focus rfl) | (apply Same.rfl)) <;> conv => whnf) | fail)
        · simp only [mrgE, if_neg h64]
          repeat' (first | with_reducible apply True.intro | ((first | ((with_reducible apply Bif.dec) <;> intro h <;> (try simp only [lns, ipRows_take] at h) <;> (try (exfalso; omega))) | (with_reducible apply Same.rfl) | (apply Same.int; focus rfl) | (with_reducible apply Cut.l)) <;> conv => whnf) | fail)
    · simp only [mergeM, if_pos hv, if_neg hn]
      refine spec_of_run ttok mixed (T0 := 170307489087936634629539218046655576007) (ts := [.tmp 6, .tmp 7, .tmp 8]) 130 rfl rfl rfl rfl (by simp) rfl ?_
      conv => whnf
      repeat' (first | with_reducible apply True.intro | ((first | (apply CallN.mk (k_refValid a .no (by omega))) | (apply CallN.mk (k_refValid b .no (by omega))) | (apply CallN.mk (k_IsTime _)) | (with_reducible apply Bif.F) | ((with_reducible apply Bif.dec) <;> intro h <;> (try simp only [lns, ipRows_take] at h) <;> (try (exfalso; omega))) | (with_reducible apply Bif.not) | ((with_reducible apply Bif.mk) <;> intro h <;> (try (simp_all; done))) | (with_reducible apply Same.rfl) | (apply Same.int; focus rfl) | (apply Same.rfl)) <;> conv => whnf) | fail)
  · simp only [mergeM, if_neg hv]
    refine spec_of_run ttok mixed (T0 := 170307489087936634629539218046655576007) (ts := [.tmp 6, .tmp 7, .tmp 8]) 130 rfl rfl rfl rfl (by simp) rfl ?_
    conv => whnf
    repeat' (first | with_reducible apply True.intro | ((first | (apply CallN.mk (k_refValid a .no (by omega))) | (apply CallN.mk (k_refValid b .no (by omega))) | (with_reducible first | apply Bif.T | apply Bif.F) | (with_reducible apply Bif.not) | ((with_reducible apply Bif.mk) <;> intro h <;> (try (simp_all; done))) | (with_reducible apply Same.rfl) | (apply Same.int; focus rfl) | (apply Same.rfl)) <;> conv => whnf) | fail)
end Go.Fw
