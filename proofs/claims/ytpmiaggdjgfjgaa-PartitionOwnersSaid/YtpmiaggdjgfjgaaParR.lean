/- PartitionOwners: the plain law and the walk. -/
import Derived.Test.YtpmiaggdjgfjgaaParQ
namespace Go.Fw
open Go.Proofs
set_option maxHeartbeats 8000000
set_option maxRecDepth 4000
theorem cur_of {r : List Clm} {now : Int} {x : Clm} (h : x ∈ cur r now) : x ∈ r ∧ x.upto > now := by
  obtain ⟨h1, h2⟩ := List.mem_filter.1 h
  exact ⟨h1, by simpa using h2⟩
/-- Every current claim has its owner in what is left. -/
def Owns (D : List Clm) (now : Int) (x : Clm) : Prop := ∃ y ∈ D, y.eui = x.eui ∧ y.upto > now
theorem owners_all {a b : Net} {now : Int} {p : Pfx} (ha : NetM a) (hb : NetM b) (hn : 0 ≤ now ∧ now ≤ 999) (hp : vPfx p = true) (hpb : p.bits ≤ 64) :
    ∃ N L D F, joinM a b now = (N, L, 0) ∧ renM N now p L 10 = (D, F, 0) ∧ F.length = L.length ∧ validN D = true ∧ D.cl.length = N.cl.length + L.length ∧ (∀ x ∈ cur a.cl now ++ cur b.cl now, Owns D.cl now x) ∧
      NetR N ∧ NetR D ∧ (∀ c ∈ L, isU c.eui) ∧ N.cl.length ≤ 12 ∧ L.length ≤ 12 := by
  have va := validN_iff.1 ha.v
  have vb := validN_iff.1 hb.v
  have hn1 : isTm now := ⟨by omega, by omega⟩
  have la := ha.lc
  have lb := hb.lc
  have ca := cur_len a.cl now
  have cb := cur_len b.cl now
  obtain ⟨R, L, h, e1⟩ := mergeM_ok (a := a.cl) (b := b.cl) (now := now) va.2.2.2 vb.2.2.2 hn1 (by omega)
  have hlen := h.len
  rw [List.length_append] at hlen
  have u1 := few_uni ha.few hb.few
  have q1 := joinM_ok ha.v hb.v hn1 (by omega) e1
  have v1 := joinM_valid (a := a) (b := b) (now := now) (by rw [q1])
  rw [q1] at v1
  dsimp only at v1
  have few := few_jn (c := R) ha.few hb.few
  have mem1 := jn_mem a b (uniU a.mem b.mem) R
  have cl1 := jn_cl a b (uniU a.mem b.mem) R
  generalize jn a b (uniU a.mem b.mem) R = N at *
  have hcs : ∀ x ∈ cur a.cl now ++ cur b.cl now, (x ∈ a.cl ∨ x ∈ b.cl) ∧ x.upto > now := fun x hx => by
    rcases List.mem_append.1 hx with g | g
    · exact ⟨.inl (cur_of g).1, (cur_of g).2⟩
    · exact ⟨.inr (cur_of g).1, (cur_of g).2⟩
  have hok : ∀ x ∈ cur a.cl now ++ cur b.cl now, clmOK x = true := fun x hx => by
    rcases (hcs x hx).1 with g | g
    · exact validR_ok va.2.2.2 x g
    · exact validR_ok vb.2.2.2 x g
  have heu : ∀ x ∈ cur a.cl now ++ cur b.cl now, 1 ≤ x.eui ∧ x.eui ≤ 5 := fun x hx => by
    rcases (hcs x hx).1 with g | g
    · exact ha.eu x g
    · exact hb.eu x g
  have hL : ∀ x ∈ L, clmOK x = true := fun x hx => hok x (h.sub.2 x hx)
  have hcur : cur N.cl now = R := by
    rw [cl1]
    exact cur_cur (cs := cur a.cl now ++ cur b.cl now) h.sub.1 fun x hx => by have := (hcs x hx).2; omega
  have vN := validN_iff.1 v1
  have hT := renT_ok (a := p.ip) (lt := 10) hn1 ⟨by omega, by omega⟩ h.rs (fun x hx => hok x (h.sub.1 x hx)) hL (by omega) L.length (Nat.le_refl _)
  rw [List.take_length] at hT
  have q2 : renM N now p L 10 = (⟨N.ep, N.rt, N.mem, (renT now 10 p.ip R L).1⟩, (renT now 10 p.ip R L).2, 0) := by
    rw [renM, if_pos ⟨v1, hp, List.all_eq_true.2 hL⟩, if_pos ⟨hn1, hpb, by omega, by omega⟩, hcur, if_neg (by omega)]
  have hT1 := hT.l1
  have hml : N.mem.length ≤ 5 := by rw [mem1]; exact u1
  refine ⟨N, L, _, _, q1, q2, hT.l2, validN_iff.2 ⟨vN.1, vN.2.1, vN.2.2.1, validR_mk (by dsimp only; omega) hT.ok hT.pw⟩, by dsimp only; rw [hT1, cl1], fun x hx => ?_, few_R few (by omega) (by rw [cl1]; omega), few_R few (show N.mem.length ≤ 1000 by omega) (show (renT now 10 p.ip R L).1.length ≤ 1000 by omega), fun c hc => ?_, by rw [cl1]; omega, by omega⟩
  · obtain ⟨r, r1, r2⟩ := best_ex hx
    by_cases he : r.eui = x.eui
    · exact ⟨r, hT.old r ((h.rm r).2 r1), he, (hcs r r1.1).2⟩
    · obtain ⟨y, hy, e, f⟩ := hT.new x ((h.lm x).2 ⟨hx, r, r1, r2, he⟩)
      exact ⟨y, hy, e, by rw [f]; omega⟩
  · have := heu c (h.sub.2 c hc)
    exact ⟨by omega, by omega⟩
theorem k_xRenumberT (n : Net) (now : Int) (p : Pfx) (lost : List Clm) (lt : Int) (t1 t2 t3 : Tg) (hn : NetR n) (hL : lost.length ≤ 1000000) (hU : ∀ c ∈ lost, isU c.eui) :
    Con Try.prog 33 [.agg [idV n.ep n.rt, .fs t1 1 (lst u64 n.mem), .fs t2 20 (lst clmV n.cl)], int now, pfxV p, .fs t3 20 (lst clmV lost), int lt] [] (.tup [netO (renM n now p lost lt).1 0 1, .ov 20 2 0 (renM n now p lost lt).2.1.length, int (renM n now p lost lt).2.2]) (netH (renM n now p lost lt).1 ++ [.arr none 20 (lst clmV (renM n now p lost lt).2.1)]) :=
  (k_xRenumber n now p lost lt hn hL hU).le ⟨ArgLe.net, ArgLe.rfl, ArgLe.rfl, ArgLe.fs, ArgLe.rfl, True.intro⟩
theorem need_app (A B : List Clm) (h : A.length + B.length ≤ 1000) : A.length = (lst clmV A).length ∧ roomOK ((lst clmV A).length + (lst clmV B).length) 48 := ⟨by simp [lst], by unfold roomOK; simp only [lst, List.length_map]; omega⟩
theorem tmodR (b : Int) (h : 0 ≤ b) : 0 ≤ b.tmod 1000 ∧ b.tmod 1000 ≤ 999 := by
  rw [Int.tmod_eq_emod_of_nonneg h]; omega
def pfxO : Pfx := ⟨⟨[32, 1, 13, 184, 0, 0, 0, 0, 0, 0, 0, 0, 0, 0, 0, 0], by decide⟩, 64⟩
def hasO (D : List Clm) (now : Int) (x : Clm) (k : Nat) : Bool := (D.take k).any fun y => (y.eui == x.eui) && decide (y.upto > now)
theorem hasO_step {D : List Clm} {k : Nat} (h : k < D.length) (now : Int) (x : Clm) : hasO D now x (k + 1) = (hasO D now x k || ((gt D k).eui == x.eui && decide ((gt D k).upto > now))) := by
  rw [hasO, take_gt h, List.any_append]
  simp [hasO]
theorem hasO_all {D : List Clm} {now : Int} {x : Clm} (h : Owns D now x) : hasO D now x D.length = true := by
  obtain ⟨y, hy, h1, h2⟩ := h
  rw [hasO, List.take_length, List.any_eq_true]
  exact ⟨y, hy, by simp [h1]; exact h2⟩
theorem k_PartitionOwners (t : List Int) : Con Try.prog 7 [.fs .no 1 (ints t)] [] (bool true) [] := by
  have ht : (t.take 400).length ≤ 400 := by simp; omega
  generalize hT : t.take 400 = l at ht
  have hN := k_made_New t
  rw [hT] at hN
  refine spec_of_run ttok mixed (T0 := 5070620676489653055587499565053) (ts := [.tmp 2]) 117 rfl rfl rfl rfl (by simp) rfl ?_
  conv => whnf
  repeat' (first | ((first | ((with_reducible apply Need.mk); focus omega) | (apply CallN.mk (hN)) | (refine CallN.ex (k_world_Base l _ (by omega) ht) ?_; rintro _ _ ⟨b, k1, rfl, rfl, b1, b2, b3⟩)) <;> conv => whnf) | fail)
  have hn := tmodR b b1
  generalize b.tmod 1000 = now at hn ⊢
  repeat' (first | ((refine CallN.ex (k_world_Net l _ now (by omega) ht (by omega)) ?_; rintro _ _ ⟨B, k2, rfl, rfl, c1, c2⟩) <;> conv => whnf) | fail)
  rename_i A ka a1 a2
  obtain ⟨N, L, D, F, q1, q2, hF, vD, hD, hO, rN, rD, hU, n1, n2⟩ := owners_all (p := pfxO) a1 c1 hn (by decide) (by decide)
  have hla := a1.lc
  have hlb := c1.lc
  have hca := cur_len A.cl now
  have hcb := cur_len B.cl now
  have w1 := k_xJoin A B now a1.R c1.R
  rw [q1] at w1
  dsimp only at w1
  have w2 := fun t1 t2 t3 => k_xRenumberT N now pfxO L 10 t1 t2 t3 rN (by omega) hU
  simp only [q2] at w2
  have w3 := fun t1 t2 => k_nValidT D t1 t2 rD
  simp only [vD] at w3
  repeat' (first | ((with_reducible apply Need.mk); (focus (exact clean_join _ _ _ _)); (conv => whnf)) | ((with_reducible apply Need.mk); (focus (exact need_app _ _ (by omega))); (conv => whnf)) | ((first | ((with_reducible apply Nm.mk); focus ((try simp only [lns]); exact rfl)) | ((with_reducible apply Need.mk); focus first | (simp only [lns]; omega) | exact CleanP.nil rfl | kernel_rfl) | (apply CallN.mk (w1)) | (apply CallN.mk (w2 _ _ _)) | (apply CallN.mk (w3 _ _)) | (apply CallN.mk (k_refCurrent A.cl _ now (by omega))) | (apply CallN.mk (k_refCurrent B.cl _ now (by omega))) | (with_reducible first | apply Bif.T | apply Bif.F) | ((with_reducible apply Bif.bne) <;> intro h <;> (try simp only [lns] at h) <;> (try (exfalso; omega))) | (with_reducible apply Bif.not) | (with_reducible first | apply Alt.l | apply GiveN.lend)) <;> conv => whnf) | fail)
  have hWl : (cur A.cl now).length + (cur B.cl now).length = (cur A.cl now ++ cur B.cl now).length := by simp
  rw [hWl]
  have hW : (cur A.cl now ++ cur B.cl now).length ≤ 12 := by omega
  clear hWl
  generalize cur A.cl now ++ cur B.cl now = W at *
  refine loop_keep ttok mixed (T0 := 5070620676489653055587499565053) [4, 74] (ι := {j : Nat // j ≤ W.length})
    (fun j => [(5, .pb 1 []), (6, .pb 2 []), (7, .pb 6 []), (8, .ov 20 5 0 L.length), (10, .pb 10 []), (73, .ov 20 11 0 W.length), (75, int (j.1 : Int))])
    (fun _ => [.cells (tape l k2), .cells (netF A), .cells (netF B), .arr none 1 (lst u64 N.mem), .arr none 20 (lst clmV N.cl), .arr none 20 (lst clmV L), .cells (netO N 3 4), .arr none 1 (lst u64 D.mem), .arr none 20 (lst clmV D.cl), .arr none 20 (lst clmV F), .cells (netO D 7 8), .arr none 20 (lst clmV W)]) (fun j => W.length - j.1) ⟨0, by omega⟩ ?_
  conv => whnf
  repeat' (first | ((apply Same.mk rfl); conv => whnf) | fail)
  rintro ⟨j, hj⟩
  dsimp only
  conv => whnf
  by_cases hjl : j < W.length
  · have hOx := hO _ (gt_mem hjl)
    have hDl : D.cl.length ≤ 24 := by omega
    repeat' (first | ((first | ((with_reducible apply Nm.mk); focus ((try simp only [lns]); exact rfl)) | ((with_reducible apply Need.mk); focus omega) | ((with_reducible apply Elem.lst); focus omega) | ((with_reducible apply Bif.dec) <;> intro h <;> (try simp only [lns] at h) <;> (try (exfalso; omega)))) <;> conv => whnf) | fail)
    generalize gt W j = x at *
    refine loop_keep ttok mixed (T0 := 5070620676489653055587499565053) [4, 74, 75, 81] (ι := {k : Nat // k ≤ D.cl.length})
      (fun k => [(5, .pb 1 []), (6, .pb 2 []), (7, .pb 6 []), (8, .ov 20 5 0 L.length), (10, .pb 10 []), (73, .ov 20 11 0 W.length), (14, .pb 12 []), (15, bool (hasO D.cl now x k.1)), (80, .ov 20 8 0 D.cl.length), (82, int (k.1 : Int))])
      (fun _ => [.cells (tape l k2), .cells (netF A), .cells (netF B), .arr none 1 (lst u64 N.mem), .arr none 20 (lst clmV N.cl), .arr none 20 (lst clmV L), .cells (netO N 3 4), .arr none 1 (lst u64 D.mem), .arr none 20 (lst clmV D.cl), .arr none 20 (lst clmV F), .cells (netO D 7 8), .arr none 20 (lst clmV W), .cells (clmV x)]) (fun k => D.cl.length - k.1) ⟨0, by omega⟩ ?_
    conv => whnf
    repeat' (first | ((apply Same.mk rfl); conv => whnf) | fail)
    rintro ⟨k, hk⟩
    dsimp only
    conv => whnf
    by_cases hkl : k < D.cl.length
    · have hst := hasO_step hkl now x
      repeat' (first | ((first | ((with_reducible apply Nm.mk); focus ((try simp only [lns]); exact rfl)) | ((with_reducible apply Wr.i64); focus omega) | ((with_reducible apply Need.mk); focus omega) | ((with_reducible apply Elem.lst); focus omega) | (with_reducible first | apply Bif.T | apply Bif.F) | ((with_reducible first | apply Bif.dec | apply Bif.beq) <;> intro h <;> (try simp only [lns] at h) <;> (try (exfalso; omega))) | ((with_reducible apply Bif.mk) <;> intro h)) <;> conv => whnf) | fail)
      all_goals ((refine ⟨⟨k + 1, by omega⟩, ?_⟩; (try dsimp only); conv => whnf); repeat' (first | with_reducible apply True.intro | ((apply Same.bool (by rw [hst]; simp_all)); (conv => whnf)) | ((first | ((with_reducible apply Need.mk); focus omega) | (with_reducible apply Same.rfl) | (apply Same.int; focus rfl) | (with_reducible apply Turn.l)) <;> conv => whnf) | fail))
    · have hkk : k = D.cl.length := by omega
      subst hkk
      have hh := hasO_all hOx
      rw [hh]
      repeat' (first | ((first | ((with_reducible apply Wr.i64); focus omega) | (with_reducible apply Bif.T) | ((with_reducible apply Bif.dec) <;> intro h <;> (try simp only [lns] at h) <;> (try (exfalso; omega))) | (with_reducible apply Bif.not)) <;> conv => whnf) | fail)
      (refine ⟨⟨j + 1, by omega⟩, ?_⟩; (try dsimp only); conv => whnf); repeat' (first | with_reducible apply True.intro | ((first | ((with_reducible apply Need.mk); focus omega) | (with_reducible apply Same.rfl) | (apply Same.int; focus rfl) | (with_reducible apply Turn.l)) <;> conv => whnf) | fail)
  · repeat' (first | with_reducible apply True.intro | ((first | ((with_reducible apply Wr.i64); focus omega) | (apply CallN.mk (k_known37)) | (with_reducible apply Bif.T) | ((with_reducible first | apply Bif.dec | apply Bif.beq) <;> intro h <;> (try simp only [lns] at h) <;> (try (exfalso; omega))) | (with_reducible apply Same.rfl)) <;> conv => whnf) | fail)
end Go.Fw
