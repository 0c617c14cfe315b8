/- What the program's Add calls. -/
import Derived.Test.YtlkhjalnnciocaaGreatHrG

namespace Go.Fw
open Go.Proofs
set_option maxHeartbeats 8000000
set_option maxRecDepth 4000
theorem k_InsertF (rows : List SV) (a : SV) (x : Option Nat) (i : Nat) (hi : i ≤ rows.length) (hl : rows.length ≤ 1000000) :
    Con Tryz.prog 174 [.fs ⟨some rows.length, false⟩ 4 rows, int i, .ov 4 0 0 1] [.arr x 4 [a]] (.ov 4 0 0 (rows.length + 1)) [.arr none 4 (rows.take i ++ [a] ++ rows.drop i)] := by
  have e1 : ((i : Int) + ((1 : Nat) : Int)).toNat = i + 1 := by omega
  have e2 : ((rows.length : Int) + ((1 : Nat) : Int)).toNat = rows.length + 1 := by omega
  refine spec_of_run ttok mixed (T0 := 295147905181504570311) (ts := [.tmp 6]) 95 rfl rfl rfl rfl (by simp) rfl ?_
  conv => whnf
  rcases Nat.lt_or_ge i rows.length with hi2 | hi2
  · have e3 : ((rows.length : Int) + ((1 : Nat) : Int) - (i : Int)).toNat = rows.length + 1 - i := by omega
    repeat' (first | with_reducible apply True.intro | ((with_reducible apply Nm.mk (ins4 hi2 ?_ ?_)) <;> first | omega | (conv => whnf)) | ((with_reducible apply Nm.mk (ins5 hi2 ?_ ?_)) <;> first | omega | (conv => whnf)) | ((first | ((with_reducible apply Nm.mk); focus ((try simp only [lns, e1, e2, e3]); exact rfl)) | ((with_reducible apply Wr.i64); focus omega) | ((with_reducible apply Need.mk); focus first | omega | (simp only [lns, e1, e2, e3]; omega) | kernel_rfl | (unfold roomOK; simp only [lns, e1, e2, e3]; omega)) | ((with_reducible first | apply Bif.dec | apply Bif.beq) <;> intro h <;> (try simp only [lns, e1, e2, e3] at h) <;> (try (exfalso; omega))) | (with_reducible apply Same.rfl) | ((with_reducible apply Same.mk); focus omega) | (with_reducible apply Cut.l) | (with_reducible apply Frz.l)) <;> conv => whnf) | fail)
  · have e3 : i = rows.length := by omega
    subst e3
    repeat' (first | with_reducible apply True.intro | ((apply Same.mk (by rw [List.take_length, List.drop_length, List.append_nil])); (conv => whnf)) | ((first | ((with_reducible apply Nm.mk); focus ((try simp only [lns, e1, e2, List.drop_length, List.append_nil]); exact rfl)) | ((with_reducible apply Need.mk); focus first | omega | (simp only [lns, e1, e2, List.drop_length, List.append_nil]; omega) | (unfold roomOK; simp only [lns, e1, e2, List.drop_length, List.append_nil]; omega)) | ((with_reducible apply Bif.beq) <;> intro h <;> (try simp only [lns, e1, e2, List.drop_length, List.append_nil] at h) <;> (try (exfalso; omega))) | (with_reducible apply Same.rfl) | (with_reducible first | apply Alt.l | apply Cut.l) | (with_reducible apply Frz.l)) <;> conv => whnf) | fail)
theorem ovl_ff {a b : Frg} : ovl a b = false ↔ ¬ (a.off < b.off + b.data.length ∧ b.off < a.off + a.data.length) := by
  rw [← ovl_iff]; simp
theorem at_step {s t b : Int} {l : List Frg} (h : Parts s t b l) (f : Frg) {k : Nat} (hk : k < l.length) : min (k + 1) (posF f l) = if (gt l k).off < f.off then k + 1 else min k (posF f l) := by
  have hp := posF_iff h f hk
  split
  · have := hp.2 ‹_›; omega
  · have : ¬ k < posF f l := fun h => ‹¬ _› (hp.1 h)
    omega
abbrev tgC (n : Nat) : Tg := ⟨some n, false⟩
theorem k_insClash (l : List Frg) (f : Frg) (t : Tg) {s g b : Int} (hP : Parts s g b l) (hf : okF f = true) (hl : l.length ≤ 2047) (hc : addP l f = none) :
    Con Tryz.prog 104 [.fs (tgC l.length) 4 (lst frgC l), frgT t f] [] (.tup [.v (.slice none 0 0), bool false, bool true]) [] := by
  have hff := okF_iff.1 hf
  have cE := k_end f t (okF.rng hf).1 (okF.rng hf).2
  have cC := k_cloned f t (by omega)
  refine spec_of_run ttok mixed (T0 := 571746583347195) (ts := [.tmp 4, .tmp 5, .tmp 6]) 59 rfl rfl rfl rfl (by simp) rfl ?_
  conv => whnf
  repeat' (first | ((first | ((with_reducible apply Nm.mk); focus ((try simp only [lns]); exact rfl)) | (with_reducible apply Frz.l)) <;> conv => whnf) | fail)
  refine loop_keep ttok mixed (T0 := 571746583347195) [0, 11, 12] (ι := {k : Nat // k ≤ l.length ∧ ∀ j, j < k → ovl (gt l j) f = false})
    (fun k => [(3, .pb 0 []), (7, int ((min k.1 (posF f l) : Nat) : Int)), (13, int (k.1 : Int))]) (fun k => [.cells (frgT t f)]) (fun k => l.length - k.1) ⟨0, by omega, none_lt⟩ ?_
  conv => whnf
  repeat' (first | ((apply Same.int (by simp)); (conv => whnf)) | ((first | (with_reducible apply Same.rfl) | (with_reducible apply Frz.l)) <;> conv => whnf) | fail)
  rintro ⟨k, hk, he⟩
  dsimp only
  conv => whnf
  by_cases hkl : k < l.length
  · have hkk := okF_iff.1 (hP.ok hkl)
    have cP := k_end (gt l k) (tgC (gt l k).data.length) (okF.rng (hP.ok hkl)).1 (okF.rng (hP.ok hkl)).2
    have cB := k_bytesEqual (gt l k).data f.data (tgC (gt l k).data.length) t
    have hat := at_step hP f hkl
    have ho := @ovl_iff (gt l k) f
    have ho2 := @ovl_ff (gt l k) f
    have eF : fEnd f = f.off + f.data.length := rfl
    have eP : fEnd (gt l k) = (gt l k).off + (gt l k).data.length := rfl
    rw [eF] at cE
    rw [eP] at cP
    cases hov : ovl (gt l k) f
    · have hn := ho2.1 hov
      by_cases hlt : (gt l k).off < f.off
      · rw [if_pos hlt] at hat
        repeat' (first | ((first | ((with_reducible apply Nm.mk); focus ((try simp only [lns]); exact rfl)) | ((with_reducible apply Wr.i64); focus omega) | ((with_reducible apply Need.mk); focus first | (simp only [lns]; omega) | kernel_rfl) | ((with_reducible apply Elem.lst); focus omega) | (apply CallN.mk (cE)) | (apply CallN.mk (cP)) | (with_reducible apply Bif.T) | ((with_reducible apply Bif.dec) <;> intro h <;> (try simp only [lns] at h) <;> (try (exfalso; omega))) | (with_reducible apply Frz.l)) <;> conv => whnf) | fail)
        all_goals ((refine ⟨⟨k + 1, hkl, step_lt he hov⟩, ?_⟩; (try dsimp only); conv => whnf); repeat' (first | with_reducible apply True.intro | ((apply Same.int (by rw [hat]; rfl)); (conv => whnf)) | ((first | ((with_reducible apply Need.mk); focus omega) | (with_reducible apply Same.rfl) | (apply Same.int; focus rfl) | (with_reducible apply Turn.l) | (with_reducible apply Frz.l)) <;> conv => whnf) | fail))
      · rw [if_neg hlt] at hat
        repeat' (first | ((first | ((with_reducible apply Nm.mk); focus ((try simp only [lns]); exact rfl)) | ((with_reducible apply Wr.i64); focus omega) | ((with_reducible apply Need.mk); focus first | (simp only [lns]; omega) | kernel_rfl) | ((with_reducible apply Elem.lst); focus omega) | (apply CallN.mk (cE)) | (with_reducible apply Bif.F) | ((with_reducible apply Bif.dec) <;> intro h <;> (try simp only [lns] at h) <;> (try (exfalso; omega))) | (with_reducible apply Frz.l)) <;> conv => whnf) | fail)
        all_goals ((refine ⟨⟨k + 1, hkl, step_lt he hov⟩, ?_⟩; (try dsimp only); conv => whnf); repeat' (first | with_reducible apply True.intro | ((apply Same.int (by rw [hat])); (conv => whnf)) | ((first | ((with_reducible apply Need.mk); focus omega) | (with_reducible apply Same.rfl) | (apply Same.int; focus rfl) | (with_reducible apply Turn.l) | (with_reducible apply Frz.l)) <;> conv => whnf) | fail))
    · have hy := ho.1 hov
      have hne : eqP (gt l k) f = false := by
        cases h : eqP (gt l k) f with
        | false => rfl
        | true => rw [addP_eq hP hkl h] at hc; cases hc
      have hne2 : ¬ ((gt l k).off = f.off ∧ (gt l k).data = f.data) := by
        rw [eqP, decide_eq_false_iff_not] at hne; exact hne
      repeat' (first | with_reducible apply True.intro | ((first | ((with_reducible apply Nm.mk); focus ((try simp only [lns]); exact rfl)) | ((with_reducible apply Need.mk); focus first | (simp only [lns]; omega) | kernel_rfl) | ((with_reducible apply Elem.lst); focus omega) | (apply CallN.mk (cE)) | (apply CallN.mk (cP)) | (apply CallN.mk (cB)) | (with_reducible first | apply Bif.T | apply Bif.F) | ((with_reducible first | apply Bif.dec | apply Bif.beq) <;> intro h <;> (try simp only [lns] at h) <;> (try first | (exfalso; omega) | (focus (exact absurd (And.intro (by assumption) h) hne2)))) | (with_reducible apply Bif.not) | (with_reducible apply Same.rfl) | (apply Same.bool; focus (with_reducible rfl)) | (with_reducible apply Frz.l)) <;> conv => whnf) | fail)
  · have hkn : k = l.length := by omega
    subst hkn
    rw [addP_ins hf he] at hc
    cases hc
theorem k_insSame (l : List Frg) (f : Frg) (t : Tg) {s g b : Int} (hP : Parts s g b l) (hf : okF f = true) (hl : l.length ≤ 2047) (hc : l.any (eqP · f) = true) :
    Con Tryz.prog 104 [.fs (tgC l.length) 4 (lst frgC l), frgT t f] [] (.tup [.fs (tgC l.length) 4 (lst frgC l), bool false, bool false]) [] := by
  have hff := okF_iff.1 hf
  have cE := k_end f t (okF.rng hf).1 (okF.rng hf).2
  have cC := k_cloned f t (by omega)
  refine spec_of_run ttok mixed (T0 := 571746583347195) (ts := [.tmp 4, .tmp 5, .tmp 6]) 59 rfl rfl rfl rfl (by simp) rfl ?_
  conv => whnf
  repeat' (first | ((first | ((with_reducible apply Nm.mk); focus ((try simp only [lns]); exact rfl)) | (with_reducible apply Frz.l)) <;> conv => whnf) | fail)
  refine loop_keep ttok mixed (T0 := 571746583347195) [0, 11, 12] (ι := {k : Nat // k ≤ l.length ∧ ∀ j, j < k → ovl (gt l j) f = false})
    (fun k => [(3, .pb 0 []), (7, int ((min k.1 (posF f l) : Nat) : Int)), (13, int (k.1 : Int))]) (fun k => [.cells (frgT t f)]) (fun k => l.length - k.1) ⟨0, by omega, none_lt⟩ ?_
  conv => whnf
  repeat' (first | ((apply Same.int (by simp)); (conv => whnf)) | ((first | (with_reducible apply Same.rfl) | (with_reducible apply Frz.l)) <;> conv => whnf) | fail)
  rintro ⟨k, hk, he⟩
  dsimp only
  conv => whnf
  by_cases hkl : k < l.length
  · have hkk := okF_iff.1 (hP.ok hkl)
    have cP := k_end (gt l k) (tgC (gt l k).data.length) (okF.rng (hP.ok hkl)).1 (okF.rng (hP.ok hkl)).2
    have cB := k_bytesEqual (gt l k).data f.data (tgC (gt l k).data.length) t
    have hat := at_step hP f hkl
    have ho := @ovl_iff (gt l k) f
    have ho2 := @ovl_ff (gt l k) f
    have eF : fEnd f = f.off + f.data.length := rfl
    have eP : fEnd (gt l k) = (gt l k).off + (gt l k).data.length := rfl
    rw [eF] at cE
    rw [eP] at cP
    cases hov : ovl (gt l k) f
    · have hn := ho2.1 hov
      by_cases hlt : (gt l k).off < f.off
      · rw [if_pos hlt] at hat
        repeat' (first | ((first | ((with_reducible apply Nm.mk); focus ((try simp only [lns]); exact rfl)) | ((with_reducible apply Wr.i64); focus omega) | ((with_reducible apply Need.mk); focus first | (simp only [lns]; omega) | kernel_rfl) | ((with_reducible apply Elem.lst); focus omega) | (apply CallN.mk (cE)) | (apply CallN.mk (cP)) | (with_reducible apply Bif.T) | ((with_reducible apply Bif.dec) <;> intro h <;> (try simp only [lns] at h) <;> (try (exfalso; omega))) | (with_reducible apply Frz.l)) <;> conv => whnf) | fail)
        all_goals ((refine ⟨⟨k + 1, hkl, step_lt he hov⟩, ?_⟩; (try dsimp only); conv => whnf); repeat' (first | with_reducible apply True.intro | ((apply Same.int (by rw [hat]; rfl)); (conv => whnf)) | ((first | ((with_reducible apply Need.mk); focus omega) | (with_reducible apply Same.rfl) | (apply Same.int; focus rfl) | (with_reducible apply Turn.l) | (with_reducible apply Frz.l)) <;> conv => whnf) | fail))
      · rw [if_neg hlt] at hat
        repeat' (first | ((first | ((with_reducible apply Nm.mk); focus ((try simp only [lns]); exact rfl)) | ((with_reducible apply Wr.i64); focus omega) | ((with_reducible apply Need.mk); focus first | (simp only [lns]; omega) | kernel_rfl) | ((with_reducible apply Elem.lst); focus omega) | (apply CallN.mk (cE)) | (with_reducible apply Bif.F) | ((with_reducible apply Bif.dec) <;> intro h <;> (try simp only [lns] at h) <;> (try (exfalso; omega))) | (with_reducible apply Frz.l)) <;> conv => whnf) | fail)
        all_goals ((refine ⟨⟨k + 1, hkl, step_lt he hov⟩, ?_⟩; (try dsimp only); conv => whnf); repeat' (first | with_reducible apply True.intro | ((apply Same.int (by rw [hat])); (conv => whnf)) | ((first | ((with_reducible apply Need.mk); focus omega) | (with_reducible apply Same.rfl) | (apply Same.int; focus rfl) | (with_reducible apply Turn.l) | (with_reducible apply Frz.l)) <;> conv => whnf) | fail))
    · have hy := ho.1 hov
      have hne : eqP (gt l k) f = true := by
        cases h : eqP (gt l k) f with
        | true => rfl
        | false =>
          have := addP_clash hP hf hkl hov he h
          rw [addP, if_pos hc] at this; cases this
      rw [eqP, decide_eq_true_eq] at hne
      repeat' (first | with_reducible apply True.intro | ((first | ((with_reducible apply Nm.mk); focus ((try simp only [lns]); exact rfl)) | ((with_reducible apply Need.mk); focus first | (simp only [lns]; omega) | kernel_rfl) | ((with_reducible apply Elem.lst); focus omega) | (apply CallN.mk (cE)) | (apply CallN.mk (cP)) | (apply CallN.mk (cB)) | (with_reducible apply Bif.T) | ((with_reducible first | apply Bif.dec | apply Bif.beq) <;> intro h <;> (try simp only [lns] at h) <;> (try first | (exfalso; omega) | (exact absurd hne.2 h))) | (with_reducible apply Bif.not) | (with_reducible apply Same.rfl) | (apply Same.bool; focus (with_reducible rfl)) | (with_reducible apply Frz.l)) <;> conv => whnf) | fail)
  · have hkn : k = l.length := by omega
    subst hkn
    obtain ⟨p, hp, hq⟩ := List.any_eq_true.1 hc
    obtain ⟨j, hj, rfl⟩ := List.mem_iff_getElem.1 hp
    rw [← gt_eq hj] at hq
    have := he j hj
    rw [eqP_ovl hf hq] at this
    cases this
theorem k_insIns (l : List Frg) (f : Frg) (t : Tg) {s g b : Int} (hP : Parts s g b l) (hf : okF f = true) (hl : l.length ≤ 2047) (hc : ∀ j, j < l.length → ovl (gt l j) f = false) :
    Con Tryz.prog 104 [.fs (tgC l.length) 4 (lst frgC l), frgT t f] [] (.tup [.ov 4 0 0 (l.length + 1), bool true, bool false]) [.arr none 4 (lst frgC (insF f l))] := by
  have hff := okF_iff.1 hf
  have cE := k_end f t (okF.rng hf).1 (okF.rng hf).2
  have cC := k_cloned f t (by omega)
  refine spec_of_run ttok mixed (T0 := 571746583347195) (ts := [.tmp 4, .tmp 5, .tmp 6]) 59 rfl rfl rfl rfl (by simp) rfl ?_
  conv => whnf
  repeat' (first | ((first | ((with_reducible apply Nm.mk); focus ((try simp only [lns]); exact rfl)) | (with_reducible apply Frz.l)) <;> conv => whnf) | fail)
  refine loop_keep ttok mixed (T0 := 571746583347195) [0, 11, 12] (ι := {k : Nat // k ≤ l.length ∧ ∀ j, j < k → ovl (gt l j) f = false})
    (fun k => [(3, .pb 0 []), (7, int ((min k.1 (posF f l) : Nat) : Int)), (13, int (k.1 : Int))]) (fun k => [.cells (frgT t f)]) (fun k => l.length - k.1) ⟨0, by omega, none_lt⟩ ?_
  conv => whnf
  repeat' (first | ((apply Same.int (by simp)); (conv => whnf)) | ((first | (with_reducible apply Same.rfl) | (with_reducible apply Frz.l)) <;> conv => whnf) | fail)
  rintro ⟨k, hk, he⟩
  dsimp only
  conv => whnf
  by_cases hkl : k < l.length
  · have hkk := okF_iff.1 (hP.ok hkl)
    have cP := k_end (gt l k) (tgC (gt l k).data.length) (okF.rng (hP.ok hkl)).1 (okF.rng (hP.ok hkl)).2
    have cB := k_bytesEqual (gt l k).data f.data (tgC (gt l k).data.length) t
    have hat := at_step hP f hkl
    have ho := @ovl_iff (gt l k) f
    have ho2 := @ovl_ff (gt l k) f
    have eF : fEnd f = f.off + f.data.length := rfl
    have eP : fEnd (gt l k) = (gt l k).off + (gt l k).data.length := rfl
    rw [eF] at cE
    rw [eP] at cP
    cases hov : ovl (gt l k) f
    · have hn := ho2.1 hov
      by_cases hlt : (gt l k).off < f.off
      · rw [if_pos hlt] at hat
        repeat' (first | ((first | ((with_reducible apply Nm.mk); focus ((try simp only [lns]); exact rfl)) | ((with_reducible apply Wr.i64); focus omega) | ((with_reducible apply Need.mk); focus first | (simp only [lns]; omega) | kernel_rfl) | ((with_reducible apply Elem.lst); focus omega) | (apply CallN.mk (cE)) | (apply CallN.mk (cP)) | (with_reducible apply Bif.T) | ((with_reducible apply Bif.dec) <;> intro h <;> (try simp only [lns] at h) <;> (try (exfalso; omega))) | (with_reducible apply Frz.l)) <;> conv => whnf) | fail)
        all_goals ((refine ⟨⟨k + 1, hkl, step_lt he hov⟩, ?_⟩; (try dsimp only); conv => whnf); repeat' (first | with_reducible apply True.intro | ((apply Same.int (by rw [hat]; rfl)); (conv => whnf)) | ((first | ((with_reducible apply Need.mk); focus omega) | (with_reducible apply Same.rfl) | (apply Same.int; focus rfl) | (with_reducible apply Turn.l) | (with_reducible apply Frz.l)) <;> conv => whnf) | fail))
      · rw [if_neg hlt] at hat
        repeat' (first | ((first | ((with_reducible apply Nm.mk); focus ((try simp only [lns]); exact rfl)) | ((with_reducible apply Wr.i64); focus omega) | ((with_reducible apply Need.mk); focus first | (simp only [lns]; omega) | kernel_rfl) | ((with_reducible apply Elem.lst); focus omega) | (apply CallN.mk (cE)) | (with_reducible apply Bif.F) | ((with_reducible apply Bif.dec) <;> intro h <;> (try simp only [lns] at h) <;> (try (exfalso; omega))) | (with_reducible apply Frz.l)) <;> conv => whnf) | fail)
        all_goals ((refine ⟨⟨k + 1, hkl, step_lt he hov⟩, ?_⟩; (try dsimp only); conv => whnf); repeat' (first | with_reducible apply True.intro | ((apply Same.int (by rw [hat])); (conv => whnf)) | ((first | ((with_reducible apply Need.mk); focus omega) | (with_reducible apply Same.rfl) | (apply Same.int; focus rfl) | (with_reducible apply Turn.l) | (with_reducible apply Frz.l)) <;> conv => whnf) | fail))
    · have hy := ho.1 hov
      rw [hc k hkl] at hov
      cases hov
  · have hkn : k = l.length := by omega
    subst hkn
    have hpl := posF_le f l
    have hmin : min l.length (posF f l) = posF f l := by omega
    rw [hmin]
    have cI := k_InsertF (lst frgC l) (frgC f) (some 1) (posF f l) (by simp [lst]; omega) (by simp [lst]; omega)
    rw [show (lst frgC l).length = l.length by simp [lst]] at cI
    have eI : (lst frgC l).take (posF f l) ++ [frgC f] ++ (lst frgC l).drop (posF f l) = lst frgC (insF f l) := by rw [insF]; simp [lst]
    rw [eI] at cI
    repeat' (first | with_reducible apply True.intro | ((with_reducible apply GiveN.mk [2]); (conv => whnf); (apply CallN.mk cI); (conv => whnf)) | ((first | ((with_reducible apply Nm.mk); focus ((try simp only [lns]); exact rfl)) | ((with_reducible apply Need.mk); focus (simp only [lns]; omega)) | (apply CallN.mk (cC)) | ((with_reducible apply Bif.dec) <;> intro h <;> (try simp only [lns] at h) <;> (try (exfalso; omega))) | (with_reducible apply Same.rfl) | (apply Same.bool; focus (with_reducible rfl)) | (with_reducible apply Cut.l) | (with_reducible apply Frz.l)) <;> conv => whnf) | fail)
end Go.Fw

/- The program's Add. -/
namespace Go.Fw
open Go.Proofs
set_option maxHeartbeats 8000000
set_option maxRecDepth 4000
abbrev addV (R : List Buf × List UInt8 × Int) : SV := .tup [.fs .no 10 (lst bufV R.1), .fs .no 1 (lst b8 R.2.1), int R.2.2]
/-- Rows that say more than these buffers. -/
structure RowW (rows : List SV) (L : List Buf) : Prop where
  len : rows.length = L.length
  wk : ∀ (i : Nat) s b, rows[i]? = some s → L[i]? = some b → Wk s (bufV b)
theorem wk_frg (t : Tg) (f : Frg) : Wk (frgT t f) (frgV f) := .cons .rfl (.cons .rfl (.cons .rfl (.cons .tag .rfl)))
theorem wk_frgs (t : Tg) (l : List Frg) : Wk (.fs t 4 (lst frgC l)) (.fs .no 4 (lst frgV l)) :=
  .lst rfl fun i a b h1 h2 => by rw [h1] at h2; cases h2; exact wk_frg _ _
theorem wk_buf (t : Tg) (b : Buf) : Wk (bufT t b (lst frgC b.parts)) (bufV b) := .cons .rfl (.cons .rfl (.cons .rfl (.cons .rfl (.cons (wk_frgs t b.parts) .rfl))))
theorem RowW.all (L : List Buf) : RowW (lst bufC L) L := ⟨by simp [lst], fun i s b h1 h2 => by
  simp only [lst, List.getElem?_map, h2, Option.map_some, Option.some.injEq] at h1
  subst h1
  exact wk_buf _ _⟩
theorem RowW.set {rows : List SV} {L : List Buf} (h : RowW rows L) (i : Nat) {s : SV} {b : Buf} (g : Wk s (bufV b)) : RowW (rows.set i s) (L.set i b) := ⟨by simp [h.len], fun j s' b' h1 h2 => by
  rw [List.getElem?_set] at h1 h2
  by_cases e : i = j
  · subst e
    rw [if_pos rfl] at h1 h2
    split at h1
    · split at h2
      · cases h1; cases h2; exact g
      · cases h2
    · cases h1
  · rw [if_neg e] at h1 h2
    exact h.wk j _ _ h1 h2⟩
theorem RowW.app {r1 r2 : List SV} {l1 l2 : List Buf} (h1 : RowW r1 l1) (h2 : RowW r2 l2) : RowW (r1 ++ r2) (l1 ++ l2) := ⟨by simp [h1.len, h2.len], fun i s b g1 g2 => by
  have := h1.len
  rw [List.getElem?_append] at g1 g2
  split at g1
  · rw [if_pos (by omega)] at g2; exact h1.wk i _ _ g1 g2
  · rw [if_neg (by omega)] at g2
    rw [this] at g1
    exact h2.wk _ _ _ g1 g2⟩
theorem RowW.take {r : List SV} {l : List Buf} (h : RowW r l) (n : Nat) : RowW (r.take n) (l.take n) := ⟨by simp [h.len], fun i s b g1 g2 => by
  rw [List.getElem?_take] at g1 g2
  split at g1
  · rw [if_pos (by assumption)] at g2; exact h.wk i _ _ g1 g2
  · cases g1⟩
theorem RowW.drop {r : List SV} {l : List Buf} (h : RowW r l) (n : Nat) : RowW (r.drop n) (l.drop n) := ⟨by simp [h.len], fun i s b g1 g2 => by
  rw [List.getElem?_drop] at g1 g2
  exact h.wk _ _ _ g1 g2⟩
theorem RowW.del {r : List SV} {l : List Buf} (h : RowW r l) (i : Nat) : RowW (r.take i ++ r.drop (i + 1)) (l.eraseIdx i) := by
  rw [List.eraseIdx_eq_take_drop_succ]
  exact (h.take i).app (h.drop (i + 1))
/-- What is returned goes among the shared slices. -/
theorem Con.fin {P : Program} {f : FuncId} {args : List SV} {rows : List SV} {L : List Buf} {d : List UInt8} {e : Int} {n1 n2 : Nat} (h : Con P f args [] (.tup [.ov 10 0 0 n1, .ov 1 1 0 n2, int e]) [.arr none 10 rows, .arr none 1 (lst b8 d)]) (hr : RowW rows L) (h1 : n1 = L.length) (h2 : n2 = d.length) :
    Con P f args [] (addV (L, d, e)) [] := by
  subst h1 h2
  have hl := hr.len
  have a1 : FzR [.arr none 10 rows, .arr none 1 (lst b8 d)] 0 (.ov 10 0 0 L.length) (.fs ⟨none, false⟩ 10 rows) := FzR.fz (x := none) (Nat.le_refl 0) rfl (by omega) (by rw [List.drop_zero, ← hl, List.take_length])
  have a2 : FzR [.arr none 10 rows, .arr none 1 (lst b8 d)] 0 (.ov 1 1 0 d.length) (.fs ⟨none, false⟩ 1 (lst b8 d)) := FzR.fz (x := none) (Nat.zero_le 1) rfl (by simp [lst]) (by rw [List.drop_zero, lst_take, List.take_length])
  refine (h.fz (r' := .tup [.fs ⟨none, false⟩ 10 rows, .fs ⟨none, false⟩ 1 (lst b8 d), int e]) 0 (Nat.le_refl _) (.tup (.cons a1 (.cons a2 (.cons .same .nil)))) rfl ?_ rfl rfl).wk (.tup (.cons (.fs (by simp [lst, hl]) fun i s s' g1 g2 => ?_) (.cons .rfl (.cons .rfl .nil))))
  · intro k ob _ h2
    match k, h2 with
    | 0, h2 => cases h2; exact ⟨_, _, _, rfl⟩
    | 1, h2 => cases h2; exact ⟨_, _, _, rfl⟩
  · simp only [lst, List.getElem?_map, Option.map_eq_some_iff] at g2
    obtain ⟨b, hb, rfl⟩ := g2
    exact hr.wk i _ _ g1 hb
theorem k_fJoinC (l : List Frg) (t : Tg) (hl : l.length ≤ 1000000) (hd : ∀ f ∈ l, f.data.length ≤ 9223372036854775807) :
    Con Tryz.prog 105 [.fs t 4 (lst frgC l)] [] (.tup [.ov 1 0 0 (joinR l).1.length, bool (joinR l).2]) [.arr none 1 (lst b8 (joinR l).1)] :=
  (k_fJoin l .no hl hd).le ⟨fun _ _ _ h => (wk_frgs t l).rel1 h, True.intro⟩
theorem k_fresh (src dst : Adr) (f : Frg) (now : Int) (hn : isTm now) (hl : f.data.length ≤ 1000000) :
    Con Tryz.prog 99 [.pb 0 [], .pb 1 [], .pb 2 [], .pb 3 []] [.cells (int now), .cells (frgV f), .cells (adrV src), .cells (adrV dst)] (.agg [adrV src, adrV dst, .v (.int .u16 f.tag), int f.size, .ov 4 4 0 1, int (min (now + 12) 1099511627776)])
      [.cells (int now), .cells (frgV f), .cells (adrV src), .cells (adrV dst), .arr (some 1) 4 (lst frgC [f])] := by
  have hn1 : 0 ≤ now ∧ now ≤ 1099511627776 := hn
  refine spec_of_run ttok mixed (T0 := 127) (ts := [.cell 4 203]) 22 rfl rfl rfl rfl (by simp) rfl ?_
  conv => whnf
  repeat' (first | with_reducible apply True.intro | ((apply Same.mk rfl); (conv => whnf)) | ((first | ((with_reducible apply Nm.mk); focus ((try simp only [lns]); exact rfl)) | ((with_reducible apply Wr.i64); focus omega) | ((with_reducible apply Need.mk); focus (simp only [lns]; omega)) | (apply CallN.mk (k_cloned f .no hl)) | (with_reducible apply Frz.l)) <;> conv => whnf) | fail)
abbrev keyF (src dst : Adr) (f : Frg) (b : Buf) : Bool := decide (b.src = src ∧ b.dst = dst ∧ b.tag = f.tag ∧ b.size = f.size)
theorem k_Add2 (b : Buf) (src dst : Adr) (f : Frg) (t2 : Tg) (rows : List SV) : Con Tryz.prog 102 [bufT t2 b rows, .pb 0 [], .pb 1 [], .pb 2 []] [.cells (adrV src), .cells (adrV dst), .cells (frgV f)] (bool (keyF src dst f b)) [.cells (adrV src), .cells (adrV dst), .cells (frgV f)] := by
  have hm := k_matches b t2 rows src dst f.tag f.size
  refine spec_of_run ttok mixed (T0 := 63) (ts := [.tmp 5]) 14 rfl rfl rfl rfl (by simp) rfl ?_
  conv => whnf
  repeat' (first | with_reducible apply True.intro | ((apply Same.mk rfl); (conv => whnf)) | ((first | (apply CallN.mk (hm)) | (with_reducible apply Frz.l)) <;> conv => whnf) | fail)
theorem k_idxA (K : List Buf) (src dst : Adr) (f : Frg) (hl : K.length ≤ 1000000) :
    ConK Tryz.prog 101 [.ov 10 0 0 K.length, .clo 102 [.pb 1 [], .pb 2 [], .pb 3 []]] [.arr none 10 (lst bufC K), .cells (adrV src), .cells (adrV dst), .cells (frgV f)] (int (idxF (keyF src dst f) K)) [.arr none 10 (lst bufC K), .cells (adrV src), .cells (adrV dst), .cells (frgV f)] := by
  refine spec_of_runK ttok mixed (T0 := 66483) (ts := [.tmp 4]) 19 rfl rfl rfl rfl (by simp) rfl ?_
  conv => whnf
  repeat' (first | ((with_reducible apply Frz.l) <;> conv => whnf) | fail)
  refine loop_keep ttok mixed (T0 := 66483) [7] (ι := {k : Nat // k ≤ K.length ∧ ∀ j, j < k → keyF src dst f (gt K j) = false})
    (fun k => [(0, .ov 10 0 0 K.length), (1, .clo 102 [.pb 1 [], .pb 2 [], .pb 3 []]), (8, int (k.1 : Int))]) (fun _ => [.arr none 10 (lst bufC K), .cells (adrV src), .cells (adrV dst), .cells (frgV f)]) (fun k => K.length - k.1) ⟨0, by omega, none_lt⟩ ?_
  conv => whnf
  repeat' (first | ((apply Same.mk rfl); (conv => whnf)) | ((with_reducible apply Frz.l) <;> conv => whnf) | fail)
  rintro ⟨k, hk, he⟩
  dsimp only
  conv => whnf
  by_cases hkl : k < K.length
  · have c2 := k_Add2 (gt K k) src dst f (tgC (gt K k).parts.length) (lst frgC (gt K k).parts)
    cases hb : keyF src dst f (gt K k)
    · rw [hb] at c2
      repeat' (first | ((first | ((with_reducible apply Nm.mk); focus ((try simp only [lns]); exact rfl)) | ((with_reducible apply Wr.i64); focus omega) | ((with_reducible apply Need.mk); focus omega) | ((with_reducible apply Elem.lst); focus omega) | (apply CallN.mk (c2)) | (with_reducible apply Bif.F) | ((with_reducible apply Bif.dec) <;> intro h <;> (try simp only [lns] at h) <;> (try (exfalso; omega))) | (with_reducible apply Frz.l)) <;> conv => whnf) | fail)
      (refine ⟨⟨k + 1, hkl, step_lt he hb⟩, ?_⟩; (try dsimp only); conv => whnf); repeat' (first | with_reducible apply True.intro | ((apply Same.mk rfl); (conv => whnf)) | ((first | ((with_reducible apply Need.mk); focus omega) | (with_reducible apply Turn.l) | (with_reducible apply Frz.l)) <;> conv => whnf) | fail)
    · rw [hb] at c2
      repeat' (first | with_reducible apply True.intro | ((apply Same.int (idxF_some hkl hb he).symm); (conv => whnf)) | ((apply Same.mk rfl); (conv => whnf)) | ((first | ((with_reducible apply Nm.mk); focus ((try simp only [lns]); exact rfl)) | ((with_reducible apply Need.mk); focus omega) | ((with_reducible apply Elem.lst); focus omega) | (apply CallN.mk (c2)) | (with_reducible apply Bif.T) | ((with_reducible apply Bif.dec) <;> intro h <;> (try simp only [lns] at h) <;> (try (exfalso; omega))) | (with_reducible apply Cut.l) | (with_reducible apply Frz.l)) <;> conv => whnf) | fail)
  · have hkn : k = K.length := by omega
    subst hkn
    repeat' (first | with_reducible apply True.intro | ((apply Same.int (idxF_none he).symm); (conv => whnf)) | ((apply Same.mk rfl); (conv => whnf)) | ((first | ((with_reducible apply Bif.dec) <;> intro h <;> (try simp only [lns] at h) <;> (try (exfalso; omega))) | (with_reducible apply Cut.l) | (with_reducible apply Frz.l)) <;> conv => whnf) | fail)
end Go.Fw
