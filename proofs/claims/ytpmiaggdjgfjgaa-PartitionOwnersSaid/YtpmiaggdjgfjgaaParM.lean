/- PartitionMeets: the plain law and the walk. -/
import Derived.Test.YtpmiaggdjgfjgaaParL
namespace Go.Fw
open Go.Proofs
set_option maxHeartbeats 8000000
set_option maxRecDepth 4000
/-- Two networks that have met. -/
def jn (a b : Net) (m : List Int) (c : List Clm) : Net := if betI b a = true then ⟨b.ep, b.rt, m, c⟩ else ⟨a.ep, a.rt, m, c⟩
theorem jn_mem (a b : Net) (m : List Int) (c : List Clm) : (jn a b m c).mem = m := by unfold jn; split <;> rfl
theorem jn_cl (a b : Net) (m : List Int) (c : List Clm) : (jn a b m c).cl = c := by unfold jn; split <;> rfl
theorem betI_r (a b : Net) (m : List Int) (c : List Clm) : betI a ⟨b.ep, b.rt, m, c⟩ = betI a b := rfl
theorem betI_l (a b : Net) (m : List Int) (c : List Clm) : betI ⟨b.ep, b.rt, m, c⟩ a = betI b a := rfl
theorem betI_iff {a b : Net} : betI a b = true ↔ a.ep > b.ep ∨ (a.ep = b.ep ∧ a.rt < b.rt) := by simp [betI]
theorem jn_comm (a b : Net) (m : List Int) (c : List Clm) : jn a b m c = jn b a m c := by
  unfold jn
  by_cases h1 : betI b a = true
  · by_cases h2 : betI a b = true
    · rw [betI_iff] at h1 h2; omega
    · rw [if_pos h1, if_neg h2]
  · by_cases h2 : betI a b = true
    · rw [if_neg h1, if_pos h2]
    · rw [if_neg h1, if_neg h2]
      rw [betI_iff] at h1 h2
      have e1 : a.ep = b.ep := by omega
      have e2 : a.rt = b.rt := by omega
      rw [e1, e2]
theorem jn_self (a : Net) (m : List Int) (c : List Clm) : jn a a m c = ⟨a.ep, a.rt, m, c⟩ := by
  unfold jn; split <;> rfl
theorem jn_assoc (a b c : Net) (m m1 m2 : List Int) (x c1 c2 : List Clm) : jn (jn a b m1 c1) c m x = jn a (jn b c m2 c2) m x := by
  unfold jn
  by_cases h1 : betI b a = true <;> by_cases h2 : betI c b = true <;> by_cases h3 : betI c a = true
  all_goals
    first
    | (simp only [h1, h2, h3, if_true, if_false, betI_r, betI_l, Bool.false_eq_true, ↓reduceIte]; done)
    | (exfalso; rw [betI_iff] at h1 h2 h3; omega)
theorem uniU_mem {a b : List Int} {z : Int} : z ∈ uniU a b ↔ z ∈ a ∨ z ∈ b := by rw [uniU, srtU_mem, List.mem_append]
theorem uniU_comm (a b : List Int) : uniU a b = uniU b a := srtU_congr fun z => by rw [List.mem_append, List.mem_append]; exact Or.comm
theorem uniU_self {a : List Int} (h : a.Pairwise (· < ·)) : uniU a a = a := by
  refine (srtU_eq h fun z => ?_).symm
  rw [List.mem_append]; exact ⟨.inl, fun h => h.elim id id⟩
theorem uniU_assoc (a b c : List Int) : uniU (uniU a b) c = uniU a (uniU b c) := srtU_eq (srtU_pw _) fun z => by
  simp only [uniU_mem, List.mem_append, or_assoc]
theorem asc_len : ∀ {L : List Int} {lo hi : Int}, L.Pairwise (· < ·) → (∀ x ∈ L, lo ≤ x ∧ x ≤ hi) → lo ≤ hi + 1 → (L.length : Int) ≤ hi + 1 - lo
  | [], lo, hi, _, _, h => by simp; omega
  | x :: r, lo, hi, hp, hx, h => by
    obtain ⟨h1, h2⟩ := List.pairwise_cons.1 hp
    have hx0 := hx x (by simp)
    have ih := asc_len (L := r) (lo := x + 1) (hi := hi) h2 (fun y hy => ⟨by have := h1 y hy; omega, (hx y (by simp [hy])).2⟩) (by omega)
    rw [List.length_cons]
    omega
theorem joinM_ok {a b : Net} {now : Int} {R L : List Clm} (va : validN a = true) (vb : validN b = true) (hn : isTm now) (hu : (uniU a.mem b.mem).length ≤ 12) (hm : mergeM a.cl b.cl now = (R, L, 0)) : joinM a b now = (jn a b (uniU a.mem b.mem) R, L, 0) := by
  rw [joinM, if_pos ⟨va, vb⟩, if_pos hn, hm, if_neg (by dsimp only; omega)]
  unfold jn
  split <;> rfl
/-- Few members. -/
def Few (n : Net) : Prop := ∀ x ∈ n.mem, 1 ≤ x ∧ x ≤ 5
theorem NetM.few {n : Net} (h : NetM n) : Few n := fun x hx => ⟨by have := (validN_iff.1 h.v).2.1.2.2.1 x hx; omega, h.hi x hx⟩
theorem few_uni {a b : Net} (ha : Few a) (hb : Few b) : (uniU a.mem b.mem).length ≤ 5 := by
  have := asc_len (lo := 1) (hi := 5) (srtU_pw (a.mem ++ b.mem)) (fun x hx => by
    rcases uniU_mem.1 hx with h | h
    · exact ha x h
    · exact hb x h) (by omega)
  unfold uniU
  omega
theorem few_jn {a b : Net} {c : List Clm} (ha : Few a) (hb : Few b) : Few (jn a b (uniU a.mem b.mem) c) := fun x hx => by
  rw [jn_mem] at hx
  rcases uniU_mem.1 hx with h | h
  · exact ha x h
  · exact hb x h
theorem few_R {n : Net} (h : Few n) (l1 : n.mem.length ≤ 1000) (l2 : n.cl.length ≤ 1000) : NetR n := ⟨fun x hx => by have := h x hx; omega, by omega, by omega⟩
theorem meets_all {a b c : Net} {now : Int} (ha : NetM a) (hb : NetM b) (hc : NetM c) (hn : isTm now) :
    ∃ AB BC X L1 L2 L3 L4 L5, joinM a b now = (AB, L1, 0) ∧ joinM b a now = (AB, L2, 0) ∧ joinM b c now = (BC, L3, 0) ∧ joinM AB c now = (X, L4, 0) ∧ joinM a BC now = (X, L5, 0) ∧ joinM a a now = (⟨a.ep, a.rt, a.mem, cur a.cl now⟩, [], 0) ∧
      NetR AB ∧ NetR BC ∧ AB.mem.length ≤ 100 ∧ X.mem.length ≤ 100 ∧ AB.cl.length ≤ 100 ∧ X.cl.length ≤ 100 := by
  have va := validN_iff.1 ha.v
  have vb := validN_iff.1 hb.v
  have vc := validN_iff.1 hc.v
  obtain ⟨R, L, S, T, X, Lx, Ly, e1, e2, e3, e4, e5, e6, n1, n2, n3, n4⟩ := joins_all (a := a.cl) (b := b.cl) (c := c.cl) va.2.2.2 vb.2.2.2 vc.2.2.2 hn ha.lc hb.lc hc.lc
  have fa := ha.few
  have fb := hb.few
  have fc := hc.few
  have u1 := few_uni fa fb
  have u2 := few_uni fb fa
  have u3 := few_uni fb fc
  have u4 := few_uni (few_jn (c := R) fa fb) fc
  have u5 := few_uni fa (few_jn (c := S) fb fc)
  have q1 := joinM_ok ha.v hb.v hn (by omega) e1
  have q2 := joinM_ok hb.v ha.v hn (by omega) e2
  have q3 := joinM_ok hb.v hc.v hn (by omega) e3
  have v1 := joinM_valid (a := a) (b := b) (now := now) (by rw [q1])
  have v3 := joinM_valid (a := b) (b := c) (now := now) (by rw [q3])
  rw [q1] at v1
  rw [q3] at v3
  dsimp only at v1 v3
  have q4 := joinM_ok v1 hc.v hn (by omega) (by rw [jn_cl]; exact e4)
  have q5 := joinM_ok ha.v v3 hn (by omega) (by rw [jn_cl]; exact e5)
  have q6 := joinM_ok ha.v ha.v hn (by have := few_uni fa fa; omega) e6
  rw [jn_self, uniU_self va.2.1.2.2.2] at q6
  rw [uniU_comm, jn_comm] at q2
  rw [jn_mem] at q4 q5
  rw [jn_assoc a b c _ _ (uniU b.mem c.mem) _ _ S, uniU_assoc] at q4
  refine ⟨_, _, _, _, _, _, _, _, q1, q2, q3, q4, q5, q6, few_R (few_jn fa fb) (by rw [jn_mem]; omega) (by rw [jn_cl]; omega), few_R (few_jn fb fc) (by rw [jn_mem]; omega) (by rw [jn_cl]; omega), by rw [jn_mem]; omega, by rw [jn_mem, ← uniU_assoc]; rw [jn_mem] at u4; omega, by rw [jn_cl]; omega, by rw [jn_cl]; omega⟩
theorem k_PartitionMeets (t : List Int) : Con Try.prog 4 [.fs .no 1 (ints t)] [] (bool true) [] := by
  have ht : (t.take 400).length ≤ 400 := by simp; omega
  generalize hT : t.take 400 = l at ht
  have hN := k_made_New t
  rw [hT] at hN
  refine spec_of_run ttok mixed (T0 := 5192296858534827628530496458644477) (ts := [.tmp 2]) 152 rfl rfl rfl rfl (by simp) rfl ?_
  conv => whnf
  repeat' (first | ((first | (apply CallN.mk (hN)) | (refine CallN.ex (k_world_Base l _ (by omega) ht) ?_; rintro _ _ ⟨b, k1, rfl, rfl, b1, b2, b3⟩) | (refine CallN.ex (k_world_Net l _ b (by omega) ht (by omega)) ?_; rintro _ _ ⟨C, k2, rfl, rfl, c1, c2⟩) | (refine CallN.ex (k_world_Time l _ b (by omega) ht (by omega)) ?_; rintro _ _ ⟨tm, k3, rfl, rfl, d1, d2, d3⟩)) <;> conv => whnf) | fail)
  rename_i A ka a1 a2 B kb g1 g2
  obtain ⟨AB, BC, X, L1, L2, L3, L4, L5, e1, e2, e3, e4, e5, e6, r1, r2, n1, n2, n3, n4⟩ := meets_all a1 g1 c1 (now := tm) ⟨by omega, by omega⟩
  have w1 := k_xJoin A B tm a1.R g1.R
  have w2 := k_xJoin B A tm g1.R a1.R
  have w3 := k_xJoin B C tm g1.R c1.R
  have w4 := fun t1 t2 => k_xJoinT AB C t1 t2 .no .no tm r1 c1.R
  have w5 := fun t3 t4 => k_xJoinT A BC .no .no t3 t4 tm a1.R r2
  have w6 := k_xJoin A A tm a1.R a1.R
  rw [e1] at w1
  rw [e2] at w2
  rw [e3] at w3
  simp only [e4] at w4
  simp only [e5] at w5
  rw [e6] at w6
  dsimp only at w1 w2 w3 w6
  have hl := a1.lc
  have hm := a1.lm
  have hc := cur_len A.cl tm
  repeat' (first | with_reducible apply True.intro | ((with_reducible apply Need.mk); (focus (exact clean_join _ _ _ _)); (conv => whnf)) | ((first | ((with_reducible apply Nm.mk); focus ((try simp only [lns]); exact rfl)) | ((with_reducible apply Need.mk); focus first | (simp only [lns]; omega) | exact CleanP.nil rfl | kernel_rfl) | (apply CallN.mk (w1)) | (apply CallN.mk (w2)) | (apply CallN.mk (w3)) | (apply CallN.mk (w4 _ _)) | (apply CallN.mk (w5 _ _)) | (apply CallN.mk (w6)) | (apply CallN.mk (k_SameN AB _ _ _ _ (by omega) (by omega))) | (apply CallN.mk (k_SameN X _ _ _ _ (by omega) (by omega))) | (apply CallN.mk (k_EqualU A.mem _ _ (by omega))) | (apply CallN.mk (k_refCurrent A.cl _ tm (by omega))) | (apply CallN.mk (k_Equal_Clm (cur A.cl tm) (cur A.cl tm) _ _ (by omega))) | (apply CallN.mk (k_known37)) | (with_reducible first | apply Bif.T | apply Bif.F) | ((with_reducible first | apply Bif.dec | apply Bif.beq | apply Bif.bne) <;> intro h <;> (try simp only [lns] at h) <;> (try first | (exfalso; omega) | (exact absurd True.intro h))) | (with_reducible apply Bif.and) | (with_reducible apply Same.rfl) | (with_reducible apply GiveN.lend)) <;> conv => whnf) | fail)
end Go.Fw
