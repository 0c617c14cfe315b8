/- PartitionParts: the plain law and the walk. -/
import Derived.Test.YtpmiaggdjgfjgaaParS
namespace Go.Fw
open Go.Proofs
set_option maxHeartbeats 8000000
set_option maxRecDepth 4000
/-- Members in two parts. -/
structure PrtP (m one two : List Int) : Prop where
  p1 : one.Pairwise (· < ·)
  p2 : two.Pairwise (· < ·)
  me : ∀ z, z ∈ m ↔ z ∈ one ∨ z ∈ two
  ds : ∀ z, z ∈ one → z ∉ two
theorem PrtP.swap {m one two : List Int} (h : PrtP m one two) : PrtP m two one :=
  ⟨h.p2, h.p1, fun z => (h.me z).trans Or.comm, fun z h1 h2 => h.ds z h2 h1⟩
theorem PrtP.nil : PrtP [] [] [] := ⟨.nil, .nil, by simp, by simp⟩
theorem PrtP.step {m one two : List Int} {x : Int} (h : PrtP m one two) (hx : ∀ z ∈ m, z < x) : PrtP (m ++ [x]) (one ++ [x]) two :=
  ⟨snoc_pw h.p1 fun z hz => hx z ((h.me z).2 (.inl hz)), h.p2, fun z => by
    rw [List.mem_append, List.mem_append, h.me z]
    exact ⟨fun g => by rcases g with (g | g) | g <;> simp [g], fun g => by rcases g with (g | g) | g <;> simp [g]⟩, fun z h1 h2 => by
    rcases List.mem_append.1 h1 with g | g
    · exact h.ds z g h2
    · rw [List.mem_singleton.1 g] at h2
      have := hx x ((h.me x).2 (.inr h2))
      omega⟩
theorem PrtP.uni {m one two : List Int} (h : PrtP m one two) (hm : m.Pairwise (· < ·)) : uniU one two = m := by
  refine (srtU_eq hm fun z => ?_).symm
  rw [List.mem_append]
  exact h.me z
theorem PrtP.here {m one two : List Int} (h : PrtP m one two) (hm : m.Pairwise (· < ·)) (n : Net) (hn : n.mem = m) : hereM n one = one := by
  have h1 : (hereM n one).Pairwise (· < ·) := by
    have : (hereM n one).Sublist n.mem := List.filter_sublist
    rw [hn] at this
    exact hm.sublist this
  rw [srtU_eq (l := one) h1 fun z => ?_, srtU_self h.p1]
  unfold hereM
  rw [List.mem_filter, hn]
  exact ⟨fun g => by simpa using g.2, fun g => ⟨(h.me z).2 (.inl g), by simpa using g⟩⟩
theorem valid_nil {n : Net} (h : validN n = true) : validN ⟨n.ep, n.rt, n.mem, []⟩ = true :=
  have v := validN_iff.1 h
  validN_iff.2 ⟨v.1, v.2.1, v.2.2.1, show validR [] = true by decide⟩
/-- The part with the root. -/
theorem leave_in {n : Net} {one two : List Int} (hv : validN ⟨n.ep, n.rt, n.mem, []⟩ = true) (h : PrtP n.mem one two) (h1 : n.rt ∈ one) : leaveM ⟨n.ep, n.rt, n.mem, []⟩ one = (⟨n.ep, n.rt, one, []⟩, 0) := by
  have v := validN_iff.1 hv
  have e := h.here v.2.1.2.2.2 ⟨n.ep, n.rt, n.mem, []⟩ rfl
  rw [leaveM, if_pos hv, e, if_neg (fun h => by rw [h] at h1; simp at h1), if_pos h1]
/-- The part without it. -/
theorem leave_out {n : Net} {one two : List Int} (hv : validN ⟨n.ep, n.rt, n.mem, []⟩ = true) (he : n.ep ≤ 3) (h : PrtP n.mem one two) (h1 : n.rt ∉ one) (h2 : one ≠ []) : leaveM ⟨n.ep, n.rt, n.mem, []⟩ one = (⟨n.ep + 1, gt one 0, one, []⟩, 0) := by
  have v := validN_iff.1 hv
  have e := h.here v.2.1.2.2.2 ⟨n.ep, n.rt, n.mem, []⟩ rfl
  rw [leaveM, if_pos hv, e, if_neg h2, if_neg h1, if_neg (show ¬ n.ep + 1 > 1073741824 by omega)]
theorem part_join {n : Net} {one two : List Int} (hv : validN ⟨n.ep, n.rt, n.mem, []⟩ = true) (he : n.ep ≤ 3) (h : PrtP n.mem one two) (h1 : n.rt ∈ one) (h2 : two ≠ []) :
    joinM ⟨n.ep, n.rt, one, []⟩ ⟨n.ep + 1, gt two 0, two, []⟩ 100 = (⟨n.ep + 1, gt two 0, n.mem, []⟩, [], 0) ∧ joinM ⟨n.ep + 1, gt two 0, two, []⟩ ⟨n.ep, n.rt, one, []⟩ 100 = (⟨n.ep + 1, gt two 0, n.mem, []⟩, [], 0) := by
  have v := validN_iff.1 hv
  have a1 := leaveM_valid (n := ⟨n.ep, n.rt, n.mem, []⟩) (p := one) (by rw [leave_in hv h h1])
  have a2 := leaveM_valid (n := ⟨n.ep, n.rt, n.mem, []⟩) (p := two) (by rw [leave_out hv he h.swap (fun g => h.ds _ h1 g) h2])
  rw [leave_in hv h h1] at a1
  rw [leave_out hv he h.swap (fun g => h.ds _ h1 g) h2] at a2
  have u1 := h.uni v.2.1.2.2.2
  have u2 := h.swap.uni v.2.1.2.2.2
  have hl := v.2.1.2.1
  dsimp only at u1 u2 hl
  have hm := merge0 (now := 100) (by decide)
  have b1 : betI ⟨n.ep + 1, gt two 0, two, []⟩ ⟨n.ep, n.rt, one, []⟩ = true := by simp [betI]; omega
  have b2 : betI ⟨n.ep, n.rt, one, []⟩ ⟨n.ep + 1, gt two 0, two, []⟩ = false := by simp [betI]; omega
  constructor
  · rw [joinM, if_pos ⟨a1, a2⟩, if_pos (by decide)]
    dsimp only
    rw [hm, u1, if_neg (by dsimp only; omega), if_pos b1]
  · rw [joinM, if_pos ⟨a2, a1⟩, if_pos (by decide)]
    dsimp only
    rw [hm, u2, if_neg (by dsimp only; omega), b2]
    rfl
theorem ArgLe.netn {e r : Int} {t1 : Tg} {m : List Int} : ArgLe (.agg [idV e r, .fs t1 1 (lst u64 m), .v (.slice none 0 0)]) (netF ⟨e, r, m, []⟩) := fun cx w v h => by
  obtain ⟨vs, e1, h⟩ := h
  refine ⟨vs, e1, ?_⟩
  cases h with
  | cons g1 g2 =>
    refine .cons g1 ?_
    cases g2 with
    | cons g3 g4 =>
      refine .cons g3.fsno ?_
      cases g4 with
      | cons g5 g6 => refine .cons ?_ g6; cases g5; exact .fs0 Tg.ok_no
theorem k_xLeaveN (e r : Int) (m p : List Int) (t1 t3 : Tg) (hn : NetR ⟨e, r, m, []⟩) (hp : p.length ≤ 9223372036854775807) : Con Try.prog 31 [.agg [idV e r, .fs t1 1 (lst u64 m), .v (.slice none 0 0)], .fs t3 1 (lst u64 p)] [] (.tup [netO (leaveM ⟨e, r, m, []⟩ p).1 0 1, int (leaveM ⟨e, r, m, []⟩ p).2]) (netH (leaveM ⟨e, r, m, []⟩ p).1) :=
  (k_xLeave ⟨e, r, m, []⟩ p hn hp).le ⟨ArgLe.netn, ArgLe.fs, True.intro⟩
structure PrtI (m : List Int) where
  j : Nat
  a : Int
  o : List Int
  w : List Int
  ha : 0 ≤ a
  hj : j ≤ m.length
  ho : o.length ≤ j
  hw : w.length ≤ j
  ok : PrtP (m.take j) o w
theorem PrtI.next {m o w : List Int} {j : Nat} (hm : m.Pairwise (· < ·)) (hj : j < m.length) (h : PrtP (m.take j) o w) : PrtP (m.take (j + 1)) (o ++ [gt m j]) w ∧ PrtP (m.take (j + 1)) o (w ++ [gt m j]) := by
  have hx : ∀ z ∈ m.take j, z < gt m j := fun z hz => by
    obtain ⟨i, hi, rfl⟩ := List.mem_iff_getElem.1 hz
    have hi' : i < j := by simp at hi; omega
    rw [List.getElem_take, ← gt_eq (by omega)]
    exact pw_asc hm hi' hj
  rw [take_gt hj]
  exact ⟨h.step hx, (h.swap.step hx).swap⟩
theorem k_PartitionParts (t : List Int) : Con Try.prog 6 [.fs .no 1 (ints t)] [] (bool true) [] := by
  have ht : (t.take 400).length ≤ 400 := by simp; omega
  generalize hT : t.take 400 = l at ht
  have hN := k_made_New t
  rw [hT] at hN
  refine spec_of_run ttok mixed (T0 := 75557863796283667431293) (ts := [.tmp 2]) 127 rfl rfl rfl rfl (by simp) rfl ?_
  conv => whnf
  repeat' (first | ((first | ((with_reducible apply Nm.mk); focus ((try simp only [lns]); exact rfl)) | (apply CallN.mk (hN)) | (refine CallN.ex (k_world_Net l _ 100 (by omega) ht (by omega)) ?_; rintro _ _ ⟨A, k2, rfl, rfl, c1, c2⟩)) <;> conv => whnf) | fail)
  obtain ⟨ep, rt, m, cl⟩ := A
  have hv := valid_nil c1.v
  have he := c1.e3
  have hl := c1.lm
  have hR := c1.R.p
  dsimp only at hv he hl hR ⊢
  have v := validN_iff.1 hv
  have hm := v.2.1.2.2.2
  have he0 : 0 ≤ ep := v.1.1
  refine LoopN.adopt 5 1 rfl (by simp) ?_
  refine LoopN.adopt 6 1 rfl (by simp) ?_
  refine loop_keep ttok mixed (T0 := 75557863796283667431293) [22, 23] (ι := PrtI m)
    (fun p => [(3, .pb 0 []), (4, .pb 1 []), (5, .ov 1 2 0 p.o.length), (6, .ov 1 3 0 p.w.length), (24, int (p.j : Int))]) (fun p => [.cells (tape l p.a), .cells (.agg [idV ep rt, .fs .no 1 (lst u64 m), .v (.slice none 0 0)]), .arr none 1 (lst u64 p.o), .arr none 1 (lst u64 p.w)]) (fun p => m.length - p.j) ⟨0, k2, [], [], c2, by omega, by simp, by simp, .nil⟩ ?_
  conv => whnf
  repeat' (first | ((apply Same.mk rfl); conv => whnf) | fail)
  rintro ⟨j, a, o, w, ha, hj, ho, hw, ok⟩
  dsimp only
  conv => whnf
  by_cases hjl : j < m.length
  · obtain ⟨s1, s2⟩ := PrtI.next hm hjl ok
    repeat' (first | ((first | (with_reducible apply Nm.snoc _ (rfl)) | ((with_reducible apply Nm.mk); focus ((try simp only [lns]); exact rfl)) | ((with_reducible apply Wr.i64); focus omega) | ((with_reducible apply Need.mk); focus first | (simp only [lns]; omega) | (unfold roomOK; simp only [lns]; omega)) | ((with_reducible apply Elem.lst); focus omega) | (refine CallN.ex (k_tape_Bool l _ 2 (by omega) ht (by omega)) ?_; rintro _ _ ⟨b, k3, rfl, rfl, d1⟩) | ((with_reducible apply Bif.dec) <;> intro h <;> (try simp only [lns] at h) <;> (try (exfalso; omega))) | ((with_reducible apply Bif.mk) <;> intro h) | (with_reducible apply Alt.l)) <;> conv => whnf) | fail)
    · (refine ⟨⟨j + 1, k3, o ++ [gt m j], w, d1, by omega, by simp; omega, by omega, s1⟩, ?_⟩; (try dsimp only); conv => whnf); repeat' (first | with_reducible apply True.intro | ((with_reducible apply Turn.r); (conv => whnf)) | ((apply Same.mk (snocU o _)); (conv => whnf)) | ((first | ((with_reducible apply Need.mk); focus omega) | (with_reducible apply Same.rfl) | (apply Same.int; focus rfl) | (with_reducible apply Cut.l)) <;> conv => whnf) | fail)
    · (refine ⟨⟨j + 1, k3, o, w ++ [gt m j], d1, by omega, by omega, by simp; omega, s2⟩, ?_⟩; (try dsimp only); conv => whnf); repeat' (first | with_reducible apply True.intro | ((with_reducible apply Turn.r); (conv => whnf)) | ((apply Same.mk (snocU w _)); (conv => whnf)) | ((first | ((with_reducible apply Need.mk); focus omega) | (with_reducible apply Same.rfl) | (apply Same.int; focus rfl) | (with_reducible apply Cut.l)) <;> conv => whnf) | fail)
  · have ej : m.take j = m := List.take_of_length_le (by omega)
    rw [ej] at ok
    by_cases h0 : o.length = 0 ∨ w.length = 0
    · repeat' (first | with_reducible apply True.intro | ((first | (apply CallN.mk (k_known37)) | (with_reducible first | apply Bif.T | apply Bif.F) | ((with_reducible first | apply Bif.dec | apply Bif.beq) <;> intro h <;> (try simp only [lns] at h) <;> (try (exfalso; omega))) | (with_reducible apply Same.rfl)) <;> conv => whnf) | fail)
    · have ho0 : o ≠ [] := fun e => h0 (.inl (by rw [e]; rfl))
      have hw0 : w ≠ [] := fun e => h0 (.inr (by rw [e]; rfl))
      have po : ∀ x ∈ o, 0 ≤ x := fun x hx => hR x ((ok.me x).2 (.inl hx))
      have pw : ∀ x ∈ w, 0 ≤ x := fun x hx => hR x ((ok.me x).2 (.inr hx))
      have rm : NetR ⟨ep, rt, m, []⟩ := ⟨hR, (show m.length ≤ _ by omega), (show 0 ≤ _ by omega)⟩
      have ro : ∀ e r, NetR ⟨e, r, o, []⟩ := fun e r => ⟨po, (show o.length ≤ _ by omega), (show 0 ≤ _ by omega)⟩
      have rw' : ∀ e r, NetR ⟨e, r, w, []⟩ := fun e r => ⟨pw, (show w.length ≤ _ by omega), (show 0 ≤ _ by omega)⟩
      have l1 := fun t1 t3 => k_xLeaveN ep rt m o t1 t3 rm (by omega)
      have l2 := fun t1 t3 => k_xLeaveN ep rt m w t1 t3 rm (by omega)
      have ce := fun t1 t2 => k_EqualU m t1 t2 (by omega)
      have q1 := fun t => k_Contains o rt t (by omega)
      have q2 := fun t => k_Contains w rt t (by omega)
      by_cases hr : rt ∈ o
      · have hr2 : rt ∉ w := ok.ds _ hr
        have e1 := leave_in (n := ⟨ep, rt, m, cl⟩) hv ok hr
        have e2 := leave_out (n := ⟨ep, rt, m, cl⟩) hv he ok.swap hr2 hw0
        have e3 := (part_join (n := ⟨ep, rt, m, cl⟩) hv he ok hr hw0).1
        have j1 := fun t1 t2 t3 t4 => k_xJoinT ⟨ep, rt, o, []⟩ ⟨ep + 1, gt w 0, w, []⟩ t1 t2 t3 t4 100 (ro _ _) (rw' _ _)
        dsimp only at e1 e2 e3
        simp only [e1] at l1
        simp only [e2] at l2
        simp only [e3] at j1
        simp only [hr, hr2, decide_true, decide_false] at q1 q2
        repeat' (first | with_reducible apply True.intro | ((with_reducible apply Need.mk); (focus (exact clean_join _ _ _ _)); (conv => whnf)) | ((first | ((with_reducible apply Nm.mk); focus ((try simp only [lns]); exact rfl)) | ((with_reducible apply Wr.i64); focus omega) | ((with_reducible apply Need.mk); focus first | omega | (simp only [lns]; omega) | exact CleanP.nil rfl | exact CleanP.lst2 rfl (fun _ => rfl) (fun _ => rfl) | kernel_rfl) | ((with_reducible apply Elem.lst); focus omega) | (apply CallN.mk (l1 _ _)) | (apply CallN.mk (l2 _ _)) | (apply CallN.mk (j1 _ _ _ _)) | (apply CallN.mk (ce _ _)) | (apply CallN.mk (q1 _)) | (apply CallN.mk (k_known37)) | (with_reducible first | apply Bif.T | apply Bif.F) | ((with_reducible first | apply Bif.dec | apply Bif.beq | apply Bif.bne) <;> intro h <;> (try simp only [lns] at h) <;> (try (exfalso; omega))) | (with_reducible apply Same.rfl) | (with_reducible apply GiveN.lend)) <;> conv => whnf) | fail)
      · have hr2 : rt ∈ w := ((ok.me rt).1 v.2.2.1).resolve_left hr
        have e1 := leave_out (n := ⟨ep, rt, m, cl⟩) hv he ok hr ho0
        have e2 := leave_in (n := ⟨ep, rt, m, cl⟩) hv ok.swap hr2
        have e3 := (part_join (n := ⟨ep, rt, m, cl⟩) hv he ok.swap hr2 ho0).2
        have j1 := fun t1 t2 t3 t4 => k_xJoinT ⟨ep + 1, gt o 0, o, []⟩ ⟨ep, rt, w, []⟩ t1 t2 t3 t4 100 (ro _ _) (rw' _ _)
        dsimp only at e1 e2 e3
        simp only [e1] at l1
        simp only [e2] at l2
        simp only [e3] at j1
        simp only [hr, hr2, decide_true, decide_false] at q1 q2
        repeat' (first | with_reducible apply True.intro | ((with_reducible apply Need.mk); (focus (exact clean_join _ _ _ _)); (conv => whnf)) | ((first | ((with_reducible apply Nm.mk); focus ((try simp only [lns]); exact rfl)) | ((with_reducible apply Wr.i64); focus omega) | ((with_reducible apply Need.mk); focus first | omega | (simp only [lns]; omega) | exact CleanP.nil rfl | exact CleanP.lst2 rfl (fun _ => rfl) (fun _ => rfl) | kernel_rfl) | ((with_reducible apply Elem.lst); focus omega) | (apply CallN.mk (l1 _ _)) | (apply CallN.mk (l2 _ _)) | (apply CallN.mk (j1 _ _ _ _)) | (apply CallN.mk (ce _ _)) | (apply CallN.mk (q1 _)) | (apply CallN.mk (q2 _)) | (apply CallN.mk (k_known37)) | (with_reducible first | apply Bif.T | apply Bif.F) | ((with_reducible first | apply Bif.dec | apply Bif.beq | apply Bif.bne) <;> intro h <;> (try simp only [lns] at h) <;> (try (exfalso; omega))) | (with_reducible apply Same.rfl) | (with_reducible apply GiveN.lend)) <;> conv => whnf) | fail)
end Go.Fw
