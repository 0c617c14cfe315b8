/- What the program's Add calls. -/
import Derived.Test.YteebplkhnhpiiaaRasG
namespace Go.Fw
open Go.Proofs
set_option maxHeartbeats 8000000
set_option maxRecDepth 4000
theorem k_InsertF (rows : List SV) (a : SV) (x : Option Nat) (i : Nat) (hi : i ≤ rows.length) (hl : rows.length ≤ 1000000) :
    Con Try.prog 60 [.fs ⟨some rows.length, false⟩ 4 rows, int i, .ov 4 0 0 1] [.arr x 4 [a]] (.ov 4 0 0 (rows.length + 1)) [.arr none 4 (rows.take i ++ [a] ++ rows.drop i)] := by
  have e1 : ((i : Int) + ((1 : Nat) : Int)).toNat = i + 1 := by omega
  have e2 : ((rows.length : Int) + ((1 : Nat) : Int)).toNat = rows.length + 1 := by omega
  refine spec_of_run ttok mixed (T0 := 295147905181504570311) (ts := [.tmp 6]) 95 rfl rfl rfl rfl (by simp) rfl ?_
  conv => whnf
  rcases Nat.lt_or_ge i rows.length with hi2 | hi2
  · have e3 : ((rows.length : Int) + ((1 : Nat) : Int) - (i : Int)).toNat = rows.length + 1 - i := by omega
    repeat' (first | with_reducible apply True.intro | ((with_reducible apply Nm.mk (ins4 hi2 ?_ ?_)) <;> first | omega | (conv => whnf)) | ((with_reducible apply Nm.mk (ins5 hi2 ?_ ?_)) <;> first | omega | (conv => whnf)) | ((first | ((with_reducible apply Nm.mk); focus ((try simp only [lns, e1, e2, e3]); exact rfl)) | ((with_reducible apply Wr.i64); focus omega) | ((with_reducible apply Need.mk); focus first | omega | (simp only [lns, e1, e2, e3]; omega) | kernel_rfl | (unfold roomOK; simp only [lns, e1, e2, e3]; omega)) | ((with_reducible first | apply Bif.dec | apply Bif.beq) <;> intro h <;> (try simp only [lns, e1, e2, e3] at h) <;> (try (exfalso; omega))) | (with_reducible apply Same.rfl) | ((with_reducible apply Same.mk); focus omega) | (with_reducible apply Cut.l) | (with_reducible apply Frz.l)) <;> conv => whnf) | fail)
  · have e3 : i = rows.length := by omega
    subst e3
    repeat' (first | with_reducible apply True.intro | ((apply Same.mk (by rw [List.take_length, List.drop_length, List.append_nil])); (conv => whnf)) | ((first | ((with_reducible apply Nm.mk); focus ((try simp only [lns, e1, e2, List.drop_length, List.append_nil]); exact rfl)) | ((with_reducible apply Need.mk); focus first | omega | (simp only [lns, e1, e2, List.drop_length, List.append_nil]; omega) | (unfold roomOK; simp only [lns, e1, e2, List.drop_length, List.append_nil]; omega)) | ((with_reducible apply Bif.beq) <;> intro h <;> (try simp only [lns, e1, e2, List.drop_length, List.append_nil] at h) <;> (try (exfalso; omega))) | (with_reducible apply Same.rfl) | (with_reducible first | apply Alt.l | apply Cut.l) | (with_reducible apply Frz.l)) <;> conv => whnf) | fail)
theorem ovl_ff {a b : Frg} : ovl a b = false ↔ ¬ (a.off < b.off + b.data.length ∧ b.off < a.off + a.data.length) := by
  rw [← ovl_iff]; simp
theorem at_step {s t b : Int} {l : List Frg} (h : Parts s t b l) (f : Frg) {k : Nat} (hk : k < l.length) : min (k + 1) (posF f l) = if (gt l k).off < f.off then k + 1 else min k (posF f l) := by
  have hp := posF_iff h f hk
  split
  · have := hp.2 ‹_›; omega
  · have : ¬ k < posF f l := fun h => ‹¬ _› (hp.1 h)
    omega
abbrev tgC (n : Nat) : Tg := ⟨some n, false⟩
theorem k_insClash (l : List Frg) (f : Frg) (t : Tg) {s g b : Int} (hP : Parts s g b l) (hf : okF f = true) (hl : l.length ≤ 2047) (hc : addP l f = none) :
    Con Try.prog 40 [.fs (tgC l.length) 4 (lst frgC l), frgT t f] [] (.tup [.v (.slice none 0 0), bool false, bool true]) [] := by
  have hff := okF_iff.1 hf
  have cE := k_end f t (okF.rng hf).1 (okF.rng hf).2
  have cC := k_cloned f t (by omega)
  refine spec_of_run ttok mixed (T0 := 571746583347195) (ts := [.tmp 4, .tmp 5, .tmp 6]) 59 rfl rfl rfl rfl (by simp) rfl ?_
  conv => whnf
  repeat' (first | ((first | ((with_reducible apply Nm.mk); focus ((try simp only [lns]); exact rfl)) | (with_reducible apply Frz.l)) <;> conv => whnf) | fail)
  refine loop_keep ttok mixed (T0 := 571746583347195) [0, 11, 12] (ι := {k : Nat // k ≤ l.length ∧ ∀ j, j < k → ovl (gt l j) f = false})
    (fun k => [(3, .pb 0 []), (7, int ((min k.1 (posF f l) : Nat) : Int)), (13, int (k.1 : Int))]) (fun k => [.cells (frgT t f)]) (fun k => l.length - k.1) ⟨0, by omega, none_lt⟩ ?_
  conv => whnf
  repeat' (first | ((apply Same.int (by simp)); (conv => whnf)) | ((first | (with_reducible apply Same.rfl) | (with_reducible apply Frz.l)) <;> conv => whnf) | fail)
  rintro ⟨k, hk, he⟩
  dsimp only
  conv => whnf
  by_cases hkl : k < l.length
  · have hkk := okF_iff.1 (hP.ok hkl)
    have cP := k_end (gt l k) (tgC (gt l k).data.length) (okF.rng (hP.ok hkl)).1 (okF.rng (hP.ok hkl)).2
    have cB := k_bytesEqual (gt l k).data f.data (tgC (gt l k).data.length) t
    have hat := at_step hP f hkl
    have ho := @ovl_iff (gt l k) f
    have ho2 := @ovl_ff (gt l k) f
    have eF : fEnd f = f.off + f.data.length := rfl
    have eP : fEnd (gt l k) = (gt l k).off + (gt l k).data.length := rfl
    rw [eF] at cE
    rw [eP] at cP
    cases hov : ovl (gt l k) f
    · have hn := ho2.1 hov
      by_cases hlt : (gt l k).off < f.off
      · rw [if_pos hlt] at hat
        repeat' (first | ((first | ((with_reducible apply Nm.mk); focus ((try simp only [lns]); exact rfl)) | ((with_reducible apply Wr.i64); focus omega) | ((with_reducible apply Need.mk); focus first | (simp only [lns]; omega) | kernel_rfl) | ((with_reducible apply Elem.lst); focus omega) | (apply CallN.mk (cE)) | (apply CallN.mk (cP)) | (with_reducible apply Bif.T) | ((with_reducible apply Bif.dec) <;> intro h <;> (try simp only [lns] at h) <;> (try (exfalso; omega))) | (with_reducible apply Frz.l)) <;> conv => whnf) | fail)
        all_goals ((refine ⟨⟨k + 1, hkl, step_lt he hov⟩, ?_⟩; (try dsimp only); conv => whnf); repeat' (first | with_reducible apply True.intro | ((apply Same.int (by rw [hat]; rfl)); (conv => whnf)) | ((first | ((with_reducible apply Need.mk); focus omega) | (with_reducible apply Same.rfl) | (apply Same.int; focus rfl) | (with_reducible apply Turn.l) | (with_reducible apply Frz.l)) <;> conv => whnf) | fail))
      · rw [if_neg hlt] at hat
        repeat' (first | ((first | ((with_reducible apply Nm.mk); focus ((try simp only [lns]); exact rfl)) | ((with_reducible apply Wr.i64); focus omega) | ((with_reducible apply Need.mk); focus first | (simp only [lns]; omega) | kernel_rfl) | ((with_reducible apply Elem.lst); focus omega) | (apply CallN.mk (cE)) | (with_reducible apply Bif.F) | ((with_reducible apply Bif.dec) <;> intro h <;> (try simp only [lns] at h) <;> (try (exfalso; omega))) | (with_reducible apply Frz.l)) <;> conv => whnf) | fail)
        all_goals ((refine ⟨⟨k + 1, hkl, step_lt he hov⟩, ?_⟩; (try dsimp only); conv => whnf); repeat' (first | with_reducible apply True.intro | ((apply Same.int (by rw [hat])); (conv => whnf)) | ((first | ((with_reducible apply Need.mk); focus omega) | (with_reducible apply Same.rfl) | (apply Same.int; focus rfl) | (with_reducible apply Turn.l) | (with_reducible apply Frz.l)) <;> conv => whnf) | fail))
    · have hy := ho.1 hov
      have hne : eqP (gt l k) f = false := by
        cases h : eqP (gt l k) f with
        | false => rfl
        | true => rw [addP_eq hP hkl h] at hc; cases hc
      have hne2 : ¬ ((gt l k).off = f.off ∧ (gt l k).data = f.data) := by
        rw [eqP, decide_eq_false_iff_not] at hne; exact hne
      repeat' (first | with_reducible apply True.intro | ((first | ((with_reducible apply Nm.mk); focus ((try simp only [lns]); exact rfl)) | ((with_reducible apply Need.mk); focus first | (simp only [lns]; omega) | kernel_rfl) | ((with_reducible apply Elem.lst); focus omega) | (apply CallN.mk (cE)) | (apply CallN.mk (cP)) | (apply CallN.mk (cB)) | (with_reducible first | apply Bif.T | apply Bif.F) | ((with_reducible first | apply Bif.dec | apply Bif.beq) <;> intro h <;> (try simp only [lns] at h) <;> (try first | (exfalso; omega) | (focus (exact absurd (And.intro (by assumption) h) hne2)))) | (with_reducible apply Bif.not) | (with_reducible apply Same.rfl) | (apply Same.bool; focus (with_reducible rfl)) | (with_reducible apply Frz.l)) <;> conv => whnf) | fail)
  · have hkn : k = l.length := by omega
    subst hkn
    rw [addP_ins hf he] at hc
    cases hc
theorem k_insSame (l : List Frg) (f : Frg) (t : Tg) {s g b : Int} (hP : Parts s g b l) (hf : okF f = true) (hl : l.length ≤ 2047) (hc : l.any (eqP · f) = true) :
    Con Try.prog 40 [.fs (tgC l.length) 4 (lst frgC l), frgT t f] [] (.tup [.fs (tgC l.length) 4 (lst frgC l), bool false, bool false]) [] := by
  have hff := okF_iff.1 hf
  have cE := k_end f t (okF.rng hf).1 (okF.rng hf).2
  have cC := k_cloned f t (by omega)
  refine spec_of_run ttok mixed (T0 := 571746583347195) (ts := [.tmp 4, .tmp 5, .tmp 6]) 59 rfl rfl rfl rfl (by simp) rfl ?_
  conv => whnf
  repeat' (first | ((first | ((with_reducible apply Nm.mk); focus ((try simp only [lns]); exact rfl)) | (with_reducible apply Frz.l)) <;> conv => whnf) | fail)
  refine loop_keep ttok mixed (T0 := 571746583347195) [0, 11, 12] (ι := {k : Nat // k ≤ l.length ∧ ∀ j, j < k → ovl (gt l j) f = false})
    (fun k => [(3, .pb 0 []), (7, int ((min k.1 (posF f l) : Nat) : Int)), (13, int (k.1 : Int))]) (fun k => [.cells (frgT t f)]) (fun k => l.length - k.1) ⟨0, by omega, none_lt⟩ ?_
  conv => whnf
  repeat' (first | ((apply Same.int (by simp)); (conv => whnf)) | ((first | (with_reducible apply Same.rfl) | (with_reducible apply Frz.l)) <;> conv => whnf) | fail)
  rintro ⟨k, hk, he⟩
  dsimp only
  conv => whnf
  by_cases hkl : k < l.length
  · have hkk := okF_iff.1 (hP.ok hkl)
    have cP := k_end (gt l k) (tgC (gt l k).data.length) (okF.rng (hP.ok hkl)).1 (okF.rng (hP.ok hkl)).2
    have cB := k_bytesEqual (gt l k).data f.data (tgC (gt l k).data.length) t
    have hat := at_step hP f hkl
    have ho := @ovl_iff (gt l k) f
    have ho2 := @ovl_ff (gt l k) f
    have eF : fEnd f = f.off + f.data.length := rfl
    have eP : fEnd (gt l k) = (gt l k).off + (gt l k).data.length := rfl
    rw [eF] at cE
    rw [eP] at cP
    cases hov : ovl (gt l k) f
    · have hn := ho2.1 hov
      by_cases hlt : (gt l k).off < f.off
      · rw [if_pos hlt] at hat
        repeat' (first | ((first | ((with_reducible apply Nm.mk); focus ((try simp only [lns]); exact rfl)) | ((with_reducible apply Wr.i64); focus omega) | ((with_reducible apply Need.mk); focus first | (simp only [lns]; omega) | kernel_rfl) | ((with_reducible apply Elem.lst); focus omega) | (apply CallN.mk (cE)) | (apply CallN.mk (cP)) | (with_reducible apply Bif.T) | ((with_reducible apply Bif.dec) <;> intro h <;> (try simp only [lns] at h) <;> (try (exfalso; omega))) | (with_reducible apply Frz.l)) <;> conv => whnf) | fail)
        all_goals ((refine ⟨⟨k + 1, hkl, step_lt he hov⟩, ?_⟩; (try dsimp only); conv => whnf); repeat' (first | with_reducible apply True.intro | ((apply Same.int (by rw [hat]; rfl)); (conv => whnf)) | ((first | ((with_reducible apply Need.mk); focus omega) | (with_reducible apply Same.rfl) | (apply Same.int; focus rfl) | (with_reducible apply Turn.l) | (with_reducible apply Frz.l)) <;> conv => whnf) | fail))
      · rw [if_neg hlt] at hat
        repeat' (first | ((first | ((with_reducible apply Nm.mk); focus ((try simp only [lns]); exact rfl)) | ((with_reducible apply Wr.i64); focus omega) | ((with_reducible apply Need.mk); focus first | (simp only [lns]; omega) | kernel_rfl) | ((with_reducible apply Elem.lst); focus omega) | (apply CallN.mk (cE)) | (with_reducible apply Bif.F) | ((with_reducible apply Bif.dec) <;> intro h <;> (try simp only [lns] at h) <;> (try (exfalso; omega))) | (with_reducible apply Frz.l)) <;> conv => whnf) | fail)
        all_goals ((refine ⟨⟨k + 1, hkl, step_lt he hov⟩, ?_⟩; (try dsimp only); conv => whnf); repeat' (first | with_reducible apply True.intro | ((apply Same.int (by rw [hat])); (conv => whnf)) | ((first | ((with_reducible apply Need.mk); focus omega) | (with_reducible apply Same.rfl) | (apply Same.int; focus rfl) | (with_reducible apply Turn.l) | (with_reducible apply Frz.l)) <;> conv => whnf) | fail))
    · have hy := ho.1 hov
      have hne : eqP (gt l k) f = true := by
        cases h : eqP (gt l k) f with
        | true => rfl
        | false =>
          have := addP_clash hP hf hkl hov he h
          rw [addP, if_pos hc] at this; cases this
      rw [eqP, decide_eq_true_eq] at hne
      repeat' (first | with_reducible apply True.intro | ((first | ((with_reducible apply Nm.mk); focus ((try simp only [lns]); exact rfl)) | ((with_reducible apply Need.mk); focus first | (simp only [lns]; omega) | kernel_rfl) | ((with_reducible apply Elem.lst); focus omega) | (apply CallN.mk (cE)) | (apply CallN.mk (cP)) | (apply CallN.mk (cB)) | (with_reducible apply Bif.T) | ((with_reducible first | apply Bif.dec | apply Bif.beq) <;> intro h <;> (try simp only [lns] at h) <;> (try first | (exfalso; omega) | (exact absurd hne.2 h))) | (with_reducible apply Bif.not) | (with_reducible apply Same.rfl) | (apply Same.bool; focus (with_reducible rfl)) | (with_reducible apply Frz.l)) <;> conv => whnf) | fail)
  · have hkn : k = l.length := by omega
    subst hkn
    obtain ⟨p, hp, hq⟩ := List.any_eq_true.1 hc
    obtain ⟨j, hj, rfl⟩ := List.mem_iff_getElem.1 hp
    rw [← gt_eq hj] at hq
    have := he j hj
    rw [eqP_ovl hf hq] at this
    cases this
theorem k_insIns (l : List Frg) (f : Frg) (t : Tg) {s g b : Int} (hP : Parts s g b l) (hf : okF f = true) (hl : l.length ≤ 2047) (hc : ∀ j, j < l.length → ovl (gt l j) f = false) :
    Con Try.prog 40 [.fs (tgC l.length) 4 (lst frgC l), frgT t f] [] (.tup [.ov 4 0 0 (l.length + 1), bool true, bool false]) [.arr none 4 (lst frgC (insF f l))] := by
  have hff := okF_iff.1 hf
  have cE := k_end f t (okF.rng hf).1 (okF.rng hf).2
  have cC := k_cloned f t (by omega)
  refine spec_of_run ttok mixed (T0 := 571746583347195) (ts := [.tmp 4, .tmp 5, .tmp 6]) 59 rfl rfl rfl rfl (by simp) rfl ?_
  conv => whnf
  repeat' (first | ((first | ((with_reducible apply Nm.mk); focus ((try simp only [lns]); exact rfl)) | (with_reducible apply Frz.l)) <;> conv => whnf) | fail)
  refine loop_keep ttok mixed (T0 := 571746583347195) [0, 11, 12] (ι := {k : Nat // k ≤ l.length ∧ ∀ j, j < k → ovl (gt l j) f = false})
    (fun k => [(3, .pb 0 []), (7, int ((min k.1 (posF f l) : Nat) : Int)), (13, int (k.1 : Int))]) (fun k => [.cells (frgT t f)]) (fun k => l.length - k.1) ⟨0, by omega, none_lt⟩ ?_
  conv => whnf
  repeat' (first | ((apply Same.int (by simp)); (conv => whnf)) | ((first | (with_reducible apply Same.rfl) | (with_reducible apply Frz.l)) <;> conv => whnf) | fail)
  rintro ⟨k, hk, he⟩
  dsimp only
  conv => whnf
  by_cases hkl : k < l.length
  · have hkk := okF_iff.1 (hP.ok hkl)
    have cP := k_end (gt l k) (tgC (gt l k).data.length) (okF.rng (hP.ok hkl)).1 (okF.rng (hP.ok hkl)).2
    have cB := k_bytesEqual (gt l k).data f.data (tgC (gt l k).data.length) t
    have hat := at_step hP f hkl
    have ho := @ovl_iff (gt l k) f
    have ho2 := @ovl_ff (gt l k) f
    have eF : fEnd f = f.off + f.data.length := rfl
    have eP : fEnd (gt l k) = (gt l k).off + (gt l k).data.length := rfl
    rw [eF] at cE
    rw [eP] at cP
    cases hov : ovl (gt l k) f
    · have hn := ho2.1 hov
      by_cases hlt : (gt l k).off < f.off
      · rw [if_pos hlt] at hat
        repeat' (first | ((first | ((with_reducible apply Nm.mk); focus ((try simp only [lns]); exact rfl)) | ((with_reducible apply Wr.i64); focus omega) | ((with_reducible apply Need.mk); focus first | (simp only [lns]; omega) | kernel_rfl) | ((with_reducible apply Elem.lst); focus omega) | (apply CallN.mk (cE)) | (apply CallN.mk (cP)) | (with_reducible apply Bif.T) | ((with_reducible apply Bif.dec) <;> intro h <;> (try simp only [lns] at h) <;> (try (exfalso; omega))) | (with_reducible apply Frz.l)) <;> conv => whnf) | fail)
        all_goals ((refine ⟨⟨k + 1, hkl, step_lt he hov⟩, ?_⟩; (try dsimp only); conv => whnf); repeat' (first | with_reducible apply True.intro | ((apply Same.int (by rw [hat]; rfl)); (conv => whnf)) | ((first | ((with_reducible apply Need.mk); focus omega) | (with_reducible apply Same.rfl) | (apply Same.int; focus rfl) | (with_reducible apply Turn.l) | (with_reducible apply Frz.l)) <;> conv => whnf) | fail))
      · rw [if_neg hlt] at hat
        repeat' (first | ((first | ((with_reducible apply Nm.mk); focus ((try simp only [lns]); exact rfl)) | ((with_reducible apply Wr.i64); focus omega) | ((with_reducible apply Need.mk); focus first | (simp only [lns]; omega) | kernel_rfl) | ((with_reducible apply Elem.lst); focus omega) | (apply CallN.mk (cE)) | (with_reducible apply Bif.F) | ((with_reducible apply Bif.dec) <;> intro h <;> (try simp only [lns] at h) <;> (try (exfalso; omega))) | (with_reducible apply Frz.l)) <;> conv => whnf) | fail)
        all_goals ((refine ⟨⟨k + 1, hkl, step_lt he hov⟩, ?_⟩; (try dsimp only); conv => whnf); repeat' (first | with_reducible apply True.intro | ((apply Same.int (by rw [hat])); (conv => whnf)) | ((first | ((with_reducible apply Need.mk); focus omega) | (with_reducible apply Same.rfl) | (apply Same.int; focus rfl) | (with_reducible apply Turn.l) | (with_reducible apply Frz.l)) <;> conv => whnf) | fail))
    · have hy := ho.1 hov
      rw [hc k hkl] at hov
      cases hov
  · have hkn : k = l.length := by omega
    subst hkn
    have hpl := posF_le f l
    have hmin : min l.length (posF f l) = posF f l := by omega
    rw [hmin]
    have cI := k_InsertF (lst frgC l) (frgC f) (some 1) (posF f l) (by simp [lst]; omega) (by simp [lst]; omega)
    rw [show (lst frgC l).length = l.length by simp [lst]] at cI
    have eI : (lst frgC l).take (posF f l) ++ [frgC f] ++ (lst frgC l).drop (posF f l) = lst frgC (insF f l) := by rw [insF]; simp [lst]
    rw [eI] at cI
    repeat' (first | with_reducible apply True.intro | ((with_reducible apply GiveN.mk [2]); (conv => whnf); (apply CallN.mk cI); (conv => whnf)) | ((first | ((with_reducible apply Nm.mk); focus ((try simp only [lns]); exact rfl)) | ((with_reducible apply Need.mk); focus (simp only [lns]; omega)) | (apply CallN.mk (cC)) | ((with_reducible apply Bif.dec) <;> intro h <;> (try simp only [lns] at h) <;> (try (exfalso; omega))) | (with_reducible apply Same.rfl) | (apply Same.bool; focus (with_reducible rfl)) | (with_reducible apply Cut.l) | (with_reducible apply Frz.l)) <;> conv => whnf) | fail)
end Go.Fw
