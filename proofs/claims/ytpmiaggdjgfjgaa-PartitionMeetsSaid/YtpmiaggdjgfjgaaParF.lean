/- Networks that are the same; Join and Leave against the reference's. -/
import Derived.Test.YtpmiaggdjgfjgaaParE
namespace Go.Fw
open Go.Proofs
set_option maxHeartbeats 4000000
set_option maxRecDepth 4000
theorem k_EqualU (a : List Int) (t1 t2 : Tg) (hl : a.length ≤ 1000000) : Con Try.prog 25 [.fs t1 1 (lst u64 a), .fs t2 1 (lst u64 a)] [] (bool true) [] := by
  refine spec_of_run ttok mixed (T0 := 16806963) (ts := [.tmp 4]) 26 rfl rfl rfl rfl (by simp) rfl ?_
  conv => whnf
  repeat' (first | ((first | ((with_reducible apply Nm.mk); focus ((try simp only [lns]); exact rfl)) | ((with_reducible apply Bif.bne) <;> intro h <;> (try simp only [lns] at h) <;> (try (exfalso; omega)))) <;> conv => whnf) | fail)
  refine loop_keep ttok mixed (T0 := 16806963) [0, 1, 12] (ι := {k : Nat // k ≤ a.length})
    (fun k => [(13, int (k.1 : Int))]) (fun _ => []) (fun k => a.length - k.1) ⟨0, by omega⟩ ?_
  conv => whnf
  repeat' (first | ((first | (with_reducible apply Same.rfl) | (apply Same.int; focus rfl)) <;> conv => whnf) | fail)
  rintro ⟨k, hk⟩
  dsimp only
  conv => whnf
  repeat' (first | with_reducible apply True.intro | ((first | ((with_reducible apply Nm.mk); focus ((try simp only [lns]); exact rfl)) | ((with_reducible apply Wr.i64); focus omega) | ((with_reducible apply Need.mk); focus first | (simp only [lns]; omega) | kernel_rfl) | ((with_reducible apply Elem.lst); focus omega) | ((with_reducible first | apply Bif.dec | apply Bif.bne) <;> intro h <;> (try simp only [lns] at h) <;> (try (exfalso; omega))) | (apply Same.bool; focus (with_reducible rfl))) <;> conv => whnf) | fail)
  (refine ⟨⟨k + 1, by omega⟩, ?_⟩; (try dsimp only); conv => whnf); repeat' (first | with_reducible apply True.intro | ((first | ((with_reducible apply Need.mk); focus omega) | (with_reducible apply Same.rfl) | (apply Same.int; focus rfl) | (with_reducible apply Turn.l)) <;> conv => whnf) | fail)
theorem k_SameN (x : Net) (t1 t2 t3 t4 : Tg) (hm : x.mem.length ≤ 1000000) (hc : x.cl.length ≤ 1000000) : Con Try.prog 18 [.agg [idV x.ep x.rt, .fs t1 1 (lst u64 x.mem), .fs t2 20 (lst clmV x.cl)], .agg [idV x.ep x.rt, .fs t3 1 (lst u64 x.mem), .fs t4 20 (lst clmV x.cl)]] [] (bool true) [] := by
  refine spec_of_run ttok mixed (T0 := 31) (ts := [.tmp 4]) 24 rfl rfl rfl rfl (by simp) rfl ?_
  conv => whnf
  repeat' (first | with_reducible apply True.intro | ((apply Same.bool (decide_eq_true rfl)); (conv => whnf)) | ((first | (apply CallN.mk (k_EqualU x.mem _ _ hm)) | (apply CallN.mk (k_Equal_Clm x.cl x.cl _ _ hc)) | (with_reducible apply Bif.T) | ((with_reducible apply Bif.beq) <;> intro h <;> (try simp only [lns] at h) <;> (try (exfalso; omega))) | (with_reducible apply Bif.and)) <;> conv => whnf) | fail)
theorem uniU_len (a b : List Int) : (uniU a b).length ≤ a.length + b.length := by
  have := srtU_len (a ++ b)
  rw [List.length_append] at this
  exact this
theorem joinM_len (a b : Net) (now : Int) : (joinM a b now).1.mem.length ≤ a.mem.length + b.mem.length ∧ (joinM a b now).1.cl.length ≤ a.cl.length + b.cl.length ∧ (joinM a b now).2.1.length ≤ a.cl.length + b.cl.length := by
  have h1 := uniU_len a.mem b.mem
  have h2 := mergeM_len a.cl b.cl now
  unfold joinM
  split
  · split
    · split
      · simp [net0]
      · split <;> exact ⟨h1, h2.1, h2.2⟩
    · simp [net0]
  · simp [net0]
theorem joinM_valid {a b : Net} {now : Int} (h0 : (joinM a b now).2.2 = 0) : validN (joinM a b now).1 = true := by
  by_cases hv : validN a = true ∧ validN b = true
  · by_cases hn : isTm now
    · by_cases hu : (uniU a.mem b.mem).length > 12 ∨ (mergeM a.cl b.cl now).2.2 ≠ 0
      · rw [joinM, if_pos hv, if_pos hn, if_pos hu] at h0
        exact absurd h0 (by decide)
      · have va := validN_iff.1 hv.1
        have vb := validN_iff.1 hv.2
        have hm := mergeM_valid a.cl b.cl now (by omega)
        have hmem : ∀ z, z ∈ uniU a.mem b.mem ↔ z ∈ a.mem ∨ z ∈ b.mem := fun z => by rw [uniU, srtU_mem, List.mem_append]
        have hl : 1 ≤ (uniU a.mem b.mem).length := List.length_pos_of_mem ((hmem a.rt).2 (.inl va.2.2.1))
        have hp : ∀ x ∈ uniU a.mem b.mem, 0 < x := fun x hx => ((hmem x).1 hx).elim (va.2.1.2.2.1 x) (vb.2.1.2.2.1 x)
        rw [joinM, if_pos hv, if_pos hn, if_neg hu]
        dsimp only
        split
        · exact validN_iff.2 ⟨vb.1, ⟨hl, (show (uniU a.mem b.mem).length ≤ 12 by omega), hp, srtU_pw _⟩, (hmem _).2 (.inr vb.2.2.1), hm⟩
        · exact validN_iff.2 ⟨va.1, ⟨hl, (show (uniU a.mem b.mem).length ≤ 12 by omega), hp, srtU_pw _⟩, (hmem _).2 (.inl va.2.2.1), hm⟩
    · rw [joinM, if_pos hv, if_neg hn] at h0
      exact absurd h0 (by decide)
  · rw [joinM, if_neg hv] at h0
    exact absurd h0 (by decide)
theorem here_len (n : Net) (p : List Int) : (hereM n p).length ≤ n.mem.length := List.length_filter_le _ _
theorem leaveM_len (n : Net) (p : List Int) : (leaveM n p).1.mem.length ≤ n.mem.length ∧ (leaveM n p).1.cl.length ≤ n.cl.length := by
  have h := here_len n p
  unfold leaveM
  split
  · split
    · simp [net0]
    · split
      · exact ⟨h, Nat.le_refl _⟩
      · split
        · simp [net0]
        · exact ⟨h, Nat.le_refl _⟩
  · simp [net0]
theorem leaveM_valid {n : Net} {p : List Int} (h0 : (leaveM n p).2 = 0) : validN (leaveM n p).1 = true := by
  by_cases hv : validN n = true
  · by_cases he : hereM n p = []
    · rw [leaveM, if_pos hv, if_pos he] at h0
      exact absurd h0 (by decide)
    · have v := validN_iff.1 hv
      have hl : 1 ≤ (hereM n p).length := List.length_pos_iff.2 he
      have hs : (hereM n p).Sublist n.mem := List.filter_sublist
      have hk : 1 ≤ (hereM n p).length ∧ (hereM n p).length ≤ 12 ∧ (∀ x ∈ hereM n p, 0 < x) ∧ (hereM n p).Pairwise (· < ·) :=
        ⟨hl, Nat.le_trans (here_len n p) v.2.1.2.1, fun x hx => v.2.1.2.2.1 x (hs.subset hx), v.2.1.2.2.2.sublist hs⟩
      by_cases hr : n.rt ∈ hereM n p
      · rw [leaveM, if_pos hv, if_neg he, if_pos hr]
        exact validN_iff.2 ⟨v.1, hk, hr, v.2.2.2⟩
      · by_cases hx : n.ep + 1 > 1073741824
        · rw [leaveM, if_pos hv, if_neg he, if_neg hr, if_pos hx] at h0
          exact absurd h0 (by decide)
        · rw [leaveM, if_pos hv, if_neg he, if_neg hr, if_neg hx]
          exact validN_iff.2 ⟨⟨(show 0 ≤ n.ep + 1 by have := v.1; omega), (show n.ep + 1 ≤ 1073741824 by omega)⟩, hk, gt_mem (show 0 < (hereM n p).length by omega), v.2.2.2⟩
  · rw [leaveM, if_neg hv] at h0
    exact absurd h0 (by decide)
theorem net0_R : NetR net0 := ⟨by simp [net0], by simp [net0], by simp [net0]⟩
theorem RelC.fsno {cx : Cx} {w : World} {t : Tg} {E : Nat} {rows : List SV} {vs : List Value} (h : RelC cx w (.fs t E rows) vs) : RelC cx w (.fs .no E rows) vs := by
  cases h with
  | fs0 _ => exact RelC.fs0 Tg.ok_no
  | fs f a1 a2 a3 a4 a5 a6 a7 => exact RelC.fs f a1 a2 a3 Tg.ok_no a5 a6 a7
/-- A network of any kind is one that comes in. -/
theorem ArgLe.net {e r : Int} {t1 t2 : Tg} {m : List Int} {c : List Clm} : ArgLe (.agg [idV e r, .fs t1 1 (lst u64 m), .fs t2 20 (lst clmV c)]) (netF ⟨e, r, m, c⟩) := fun cx w v h => by
  obtain ⟨vs, e1, h⟩ := h
  refine ⟨vs, e1, ?_⟩
  cases h with
  | cons g1 g2 =>
    refine .cons g1 ?_
    cases g2 with
    | cons g3 g4 =>
      refine .cons g3.fsno ?_
      cases g4 with
      | cons g5 g6 => exact .cons g5.fsno g6
theorem k_nValidT (n : Net) (t1 t2 : Tg) (hn : NetR n) : Con Try.prog 21 [.agg [idV n.ep n.rt, .fs t1 1 (lst u64 n.mem), .fs t2 20 (lst clmV n.cl)]] [] (bool (validN n)) [] :=
  (k_nValid n hn).le ⟨ArgLe.net, True.intro⟩
theorem k_xJoinT (a b : Net) (t1 t2 t3 t4 : Tg) (now : Int) (ha : NetR a) (hb : NetR b) : Con Try.prog 24 [.agg [idV a.ep a.rt, .fs t1 1 (lst u64 a.mem), .fs t2 20 (lst clmV a.cl)], .agg [idV b.ep b.rt, .fs t3 1 (lst u64 b.mem), .fs t4 20 (lst clmV b.cl)], int now] [] (.tup [netO (joinM a b now).1 0 1, .ov 20 2 0 (joinM a b now).2.1.length, int (joinM a b now).2.2]) (netH (joinM a b now).1 ++ [.arr none 20 (lst clmV (joinM a b now).2.1)]) :=
  (k_xJoin a b now ha hb).le ⟨ArgLe.net, ArgLe.net, ArgLe.rfl, True.intro⟩
theorem k_xLeaveT (n : Net) (p : List Int) (t1 t2 t3 : Tg) (hn : NetR n) (hp : p.length ≤ 9223372036854775807) : Con Try.prog 31 [.agg [idV n.ep n.rt, .fs t1 1 (lst u64 n.mem), .fs t2 20 (lst clmV n.cl)], .fs t3 1 (lst u64 p)] [] (.tup [netO (leaveM n p).1 0 1, int (leaveM n p).2]) (netH (leaveM n p).1) :=
  (k_xLeave n p hn hp).le ⟨ArgLe.net, ArgLe.fs, True.intro⟩
theorem joinM_R {a b : Net} {now : Int} (ha : NetR a) (hb : NetR b) (lma : a.mem.length ≤ 1000) (lmb : b.mem.length ≤ 1000) (lca : a.cl.length ≤ 1000) (lcb : b.cl.length ≤ 1000) : NetR (joinM a b now).1 := by
  obtain ⟨l1, l2, l3⟩ := joinM_len a b now
  refine ⟨?_, by omega, by omega⟩
  have h1 : ∀ x ∈ uniU a.mem b.mem, 0 ≤ x := fun x hx => by
    rw [uniU, srtU_mem, List.mem_append] at hx
    exact hx.elim (ha.p x) (hb.p x)
  unfold joinM
  split
  · split
    · split
      · simp [net0]
      · split <;> exact h1
    · simp [net0]
  · simp [net0]
theorem leaveM_R {n : Net} {p : List Int} (hn : NetR n) : NetR (leaveM n p).1 := by
  obtain ⟨l1, l2⟩ := leaveM_len n p
  have lm := hn.lm
  have lc := hn.lc
  refine ⟨?_, by omega, by omega⟩
  have h1 : ∀ x ∈ hereM n p, 0 ≤ x := fun x hx => hn.p x (List.filter_sublist.subset hx)
  unfold leaveM
  split
  · split
    · simp [net0]
    · split
      · exact h1
      · split
        · simp [net0]
        · exact h1
  · simp [net0]
theorem k_joins (a b : Net) (now : Int) (ha : NetR a) (hb : NetR b) (lma : a.mem.length ≤ 1000) (lmb : b.mem.length ≤ 1000) (lca : a.cl.length ≤ 1000) (lcb : b.cl.length ≤ 1000) :
    Con Try.prog 23 [netF a, netF b, int now] [] (bool true) [] := by
  have cx := k_xJoin a b now ha hb
  have cy := k_yJoin a b now ha hb lca lcb
  have hv := @joinM_valid a b now
  obtain ⟨l1, l2, l3⟩ := joinM_len a b now
  have hR : NetR (joinM a b now).1 := joinM_R ha hb lma lmb lca lcb
  generalize joinM a b now = q at *
  obtain ⟨x, L, e⟩ := q
  dsimp only at cx cy hv l1 l2 l3 hR
  refine spec_of_run ttok mixed (T0 := 8159) (ts := [.tmp 6]) 50 rfl rfl rfl rfl (by simp) rfl ?_
  conv => whnf
  repeat' (first | with_reducible apply True.intro | ((apply Same.bool (hv (by omega))); (conv => whnf)) | ((first | ((with_reducible apply Nm.mk); focus ((try simp only [lns]); exact rfl)) | ((with_reducible apply Need.mk); focus first | (simp only [lns]; omega) | exact CleanP.nil rfl) | (apply CallN.mk (cx)) | (apply CallN.mk (cy)) | (apply CallN.mk (k_SameN x _ _ _ _ (by omega) (by omega))) | (apply CallN.mk (k_Equal_Clm L L _ _ (by omega))) | (apply CallN.mk (k_nValidT x _ _ hR)) | (with_reducible first | apply Bif.T | apply Bif.F) | ((with_reducible first | apply Bif.dec | apply Bif.beq | apply Bif.bne) <;> intro h <;> (try simp only [lns] at h) <;> (try first | (exfalso; omega) | (exact absurd True.intro h))) | (apply Same.bool; focus (with_reducible rfl)) | (with_reducible apply GiveN.lend)) <;> conv => whnf) | fail)
theorem k_leaves (n : Net) (p : List Int) (hn : NetR n) (hp : p.length ≤ 1000) (lm : n.mem.length ≤ 1000) (lc : n.cl.length ≤ 1000) :
    Con Try.prog 29 [netF n, .fs .no 1 (lst u64 p)] [] (bool true) [] := by
  have cx := k_xLeave n p hn (by omega)
  have cy := k_yLeave n p hn (by omega)
  have hv := @leaveM_valid n p
  obtain ⟨l1, l2⟩ := leaveM_len n p
  have hR : NetR (leaveM n p).1 := leaveM_R hn
  generalize leaveM n p = q at *
  obtain ⟨x, e⟩ := q
  dsimp only at cx cy hv l1 l2 hR
  refine spec_of_run ttok mixed (T0 := 503) (ts := [.tmp 4]) 37 rfl rfl rfl rfl (by simp) rfl ?_
  conv => whnf
  repeat' (first | with_reducible apply True.intro | ((apply Same.bool (hv (by omega))); (conv => whnf)) | ((first | ((with_reducible apply Nm.mk); focus ((try simp only [lns]); exact rfl)) | ((with_reducible apply Need.mk); focus first | (simp only [lns]; omega) | exact CleanP.nil rfl) | (apply CallN.mk (cx)) | (apply CallN.mk (cy)) | (apply CallN.mk (k_SameN x _ _ _ _ (by omega) (by omega))) | (apply CallN.mk (k_nValidT x _ _ hR)) | (with_reducible first | apply Bif.T | apply Bif.F) | ((with_reducible first | apply Bif.beq | apply Bif.bne) <;> intro h <;> (try simp only [lns] at h) <;> (try (exfalso; omega))) | (apply Same.bool; focus (with_reducible rfl)) | (with_reducible apply GiveN.lend)) <;> conv => whnf) | fail)
end Go.Fw
