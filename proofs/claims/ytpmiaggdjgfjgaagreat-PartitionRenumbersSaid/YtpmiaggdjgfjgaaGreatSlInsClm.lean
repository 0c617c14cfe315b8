/- Slices of Clm: the functions of Go's package slices. Written by wip/gen/gen.py. -/
import Derived.Test.YtpmiaggdjgfjgaaGreatMakA

namespace Go.Fw
set_option maxRecDepth 4000
open Go.Proofs
set_option maxHeartbeats 4000000
theorem k_Clone_Clm (l : List Clm) (t : Tg) (hl : l.length ≤ 1000000) : Con Tryz.prog 30 [.fs t 20 (lst clmV l)] [] (.ov 20 0 0 l.length) [.arr none 20 (lst clmV l)] := by
  rcases l with _ | ⟨a, l⟩
  · refine Con.nil1 ?_ ?_
    · refine spec_of_run ttok mixed (T0 := 21) (ts := [.tmp 2]) 8 rfl rfl rfl rfl (by simp) rfl ?_
      conv => whnf
      repeat' (first | with_reducible apply True.intro | ((first | (with_reducible apply Bif.T) | (with_reducible apply Same.rfl) | (apply Same.rfl) | (with_reducible apply Frz.l)) <;> conv => whnf) | fail)
    · refine spec_of_run ttok mixed (T0 := 21) (ts := [.tmp 2]) 8 rfl rfl rfl rfl (by simp) rfl ?_
      conv => whnf
      repeat' (first | with_reducible apply True.intro | ((first | ((with_reducible apply Nm.mk); focus ((try simp only [lns]); exact rfl)) | ((with_reducible apply Need.mk); focus (unfold roomOK; simp only [lns]; omega)) | (with_reducible apply Bif.F) | (with_reducible apply Same.rfl) | (apply Same.rfl) | (with_reducible first | apply Alt.l | apply Cut.l) | (with_reducible apply Frz.l)) <;> conv => whnf) | fail)
  · have hl' : l.length + 1 ≤ 1000000 := hl
    clear hl
    obtain ⟨cap, nn⟩ := t
    cases nn
    all_goals
      refine spec_of_run ttok mixed (T0 := 21) (ts := [.tmp 2]) 8 rfl rfl rfl rfl (by simp) rfl ?_
      conv => whnf
      repeat' (first | with_reducible apply True.intro | ((first | ((with_reducible apply Nm.mk); focus ((try simp only [lns]); exact rfl)) | ((with_reducible apply Need.mk); focus first | exact List.cons_ne_nil _ _ | (unfold roomOK; simp only [lns]; omega)) | (with_reducible apply Bif.F) | (with_reducible apply Same.rfl) | (apply Same.rfl) | (with_reducible first | apply Alt.l | apply Cut.l) | (with_reducible apply Frz.l)) <;> conv => whnf) | fail)
theorem k_Equal_Clm (a b : List Clm) (t1 t2 : Tg) (hl : a.length ≤ 1000000) : Con Tryz.prog 27 [.fs t1 20 (lst clmV a), .fs t2 20 (lst clmV b)] [] (bool (decide (a = b))) [] := by
  refine spec_of_run ttok mixed (T0 := 16806963) (ts := [.tmp 4]) 26 rfl rfl rfl rfl (by simp) rfl ?_
  conv => whnf
  repeat' (first | ((first | ((with_reducible apply Nm.mk); focus ((try simp only [lns]); exact rfl)) | ((with_reducible apply Bif.bne) <;> intro h <;> (try simp only [lns] at h)) | (with_reducible apply Frz.l)) <;> conv => whnf) | fail)
  · have hne : a ≠ b := fun e => h (by rw [e])
    apply Same.bool (by simp [hne])
    conv => whnf
    repeat' (first | with_reducible apply True.intro | ((with_reducible apply Frz.l) <;> conv => whnf) | fail)
  have hab : a.length = b.length := by omega
  refine loop_keep ttok mixed (T0 := 16806963) [0, 1, 12] (ι := {k : Nat // k ≤ a.length ∧ ∀ j, j < k → gt a j = gt b j})
    (fun k => [(13, int (k.1 : Int))]) (fun _ => []) (fun k => a.length - k.1) ⟨0, by omega, none_lt⟩ ?_
  conv => whnf
  repeat' (first | ((first | (with_reducible apply Same.rfl) | (apply Same.int; focus rfl) | (with_reducible apply Frz.l)) <;> conv => whnf) | fail)
  rintro ⟨k, hk, he⟩
  dsimp only
  conv => whnf
  repeat' (first | ((apply Bif.of (clmV_eq _ _)); (conv => whnf)) | ((first | ((with_reducible apply Nm.mk); focus ((try simp only [lns]); exact rfl)) | ((with_reducible apply Wr.i64); focus omega) | ((with_reducible apply Need.mk); focus first | (simp only [lns]; omega) | kernel_rfl) | ((with_reducible apply Elem.lst); focus omega) | ((with_reducible apply Bif.dec) <;> intro h <;> (try simp only [lns] at h)) | (with_reducible apply Bif.not) | (with_reducible apply Frz.l)) <;> conv => whnf) | fail)
  · (refine ⟨⟨k + 1, by omega, step_lt he h⟩, ?_⟩; (try dsimp only); conv => whnf); repeat' (first | with_reducible apply True.intro | ((first | ((with_reducible apply Need.mk); focus omega) | (with_reducible apply Same.rfl) | (apply Same.int; focus rfl) | (with_reducible apply Turn.l) | (with_reducible apply Frz.l)) <;> conv => whnf) | fail)
  · have hne : a ≠ b := fun e => h (by rw [e])
    apply Same.bool (by simp [hne])
    conv => whnf
    repeat' (first | with_reducible apply True.intro | ((with_reducible apply Frz.l) <;> conv => whnf) | fail)
  · have he2 : a = b := ext_gt hab fun i hi => he i (by omega)
    apply Same.bool (by simp [he2])
    conv => whnf
    repeat' (first | with_reducible apply True.intro | ((with_reducible apply Frz.l) <;> conv => whnf) | fail)
/-- slices.IndexFunc, with a closure over a number. -/
theorem k_IndexFunc_Clm (g : FuncId) (now : Int) (p : Clm → Bool) (hg : ∀ a, Con Tryz.prog g [clmV a, .pb 0 []] [.cells (int now)] (bool (p a)) [.cells (int now)]) (l : List Clm) (t : Tg) (hl : l.length ≤ 1000000) :
    Con Tryz.prog 67 [.fs t 20 (lst clmV l), .clo g [.pb 0 []]] [.cells (int now)] (int (idxF p l)) [.cells (int now)] := by
  refine spec_of_run ttok mixed (T0 := 66483) (ts := [.tmp 4]) 19 rfl rfl rfl rfl (by simp) rfl ?_
  conv => whnf
  repeat' (first | ((first | ((with_reducible apply Nm.mk); focus ((try simp only [lns]); exact rfl)) | (with_reducible apply Frz.l)) <;> conv => whnf) | fail)
  refine loop_keep ttok mixed (T0 := 66483) [0, 1, 7] (ι := {k : Nat // k ≤ l.length ∧ ∀ j, j < k → p (gt l j) = false})
    (fun k => [(8, int (k.1 : Int))]) (fun _ => [.cells (int now)]) (fun k => l.length - k.1) ⟨0, by omega, none_lt⟩ ?_
  conv => whnf
  repeat' (first | ((first | (with_reducible apply Same.rfl) | (apply Same.int; focus rfl) | (with_reducible apply Frz.l)) <;> conv => whnf) | fail)
  rintro ⟨k, hk, he⟩
  dsimp only
  conv => whnf
  repeat' (first | ((first | ((with_reducible apply Nm.mk); focus ((try simp only [lns]); exact rfl)) | ((with_reducible apply Wr.i64); focus omega) | ((with_reducible apply Need.mk); focus (simp only [lns]; omega)) | ((with_reducible apply Elem.lst); focus omega) | (apply CallN.mk (hg _)) | ((with_reducible apply Bif.dec) <;> intro h <;> (try simp only [lns] at h)) | ((with_reducible apply Bif.mk) <;> intro h) | (with_reducible apply Frz.l)) <;> conv => whnf) | fail)
  · apply Same.int (idxF_some (by omega) h he).symm
    conv => whnf
    repeat' (first | with_reducible apply True.intro | ((first | (with_reducible apply Same.rfl) | (with_reducible apply Frz.l)) <;> conv => whnf) | fail)
  · (refine ⟨⟨k + 1, by omega, step_lt he h⟩, ?_⟩; (try dsimp only); conv => whnf); repeat' (first | with_reducible apply True.intro | ((first | ((with_reducible apply Need.mk); focus omega) | (with_reducible apply Same.rfl) | (apply Same.int; focus rfl) | (with_reducible apply Turn.l) | (with_reducible apply Frz.l)) <;> conv => whnf) | fail)
  · have hkl : k = l.length := by omega
    subst hkl
    apply Same.int (idxF_none he).symm
    conv => whnf
    repeat' (first | with_reducible apply True.intro | ((first | (with_reducible apply Same.rfl) | (with_reducible apply Frz.l)) <;> conv => whnf) | fail)
/-- slices.DeleteFunc, with a closure over a number. -/
theorem k_DeleteFunc_Clm (g : FuncId) (now : Int) (p : Clm → Bool) (hg : ∀ a, Con Tryz.prog g [clmV a, .pb 0 []] [.cells (int now)] (bool (p a)) [.cells (int now)]) (l : List Clm) (hl : l.length ≤ 1000000) :
    Con Tryz.prog 86 [.ov 20 1 0 l.length, .clo g [.pb 0 []]] [.cells (int now), .arr none 20 (lst clmV l)] (.ov 20 1 0 (l.filter fun a => !p a).length) [.cells (int now), .arr none 20 (lst clmV (l.filter fun a => !p a))] := by
  refine spec_of_run ttok mixed (T0 := 537399539) (ts := [.tmp 4]) 42 rfl rfl rfl rfl (by simp) rfl ?_
  conv => whnf
  rcases idxF_cases p l with ⟨hi, he⟩ | ⟨k, hk, hi, hp, he⟩
  · have hf : (l.filter fun a => !p a) = l := filter_all fun j hj => by rw [he j hj]; rfl
    rw [hf]
    repeat' (first | with_reducible apply True.intro | ((first | ((with_reducible apply Nm.mk); focus ((try simp only [lns]); exact rfl)) | ((with_reducible apply Need.mk); focus first | (simp only [lns]; omega) | exact CleanP.cell rfl rfl) | (apply CallN.mk (k_IndexFunc_Clm g now p hg l _ hl)) | ((with_reducible apply Bif.beq) <;> intro h <;> (try simp only [lns] at h) <;> (try (exfalso; omega))) | (with_reducible apply Same.rfl) | (with_reducible first | apply Cut.l | apply GiveN.lend) | (with_reducible apply Frz.l)) <;> conv => whnf) | fail)
  · repeat' (first | ((first | ((with_reducible apply Nm.mk); focus ((try simp only [lns]); exact rfl)) | ((with_reducible apply Wr.i64); focus omega) | ((with_reducible apply Need.mk); focus first | (simp only [lns]; omega) | exact CleanP.cell rfl rfl) | (apply CallN.mk (k_IndexFunc_Clm g now p hg l _ hl)) | ((with_reducible apply Bif.beq) <;> intro h <;> (try simp only [lns] at h) <;> (try (exfalso; omega))) | (with_reducible apply GiveN.lend) | (with_reducible apply Frz.l)) <;> conv => whnf) | fail)
    refine loop_keep ttok mixed (T0 := 537399539) [0, 1] (ι := {x : Nat × Nat × List Clm // Del p l x.1 x.2.1 x.2.2})
      (fun x => [(5, int (x.1.1 : Int)), (6, int (x.1.2.1 : Int))]) (fun x => [.cells (int now), .arr none 20 (lst clmV x.1.2.2)]) (fun x => l.length - x.1.2.1) ⟨(k, k + 1, l), Del.start hk hp he⟩ ?_
    conv => whnf
    repeat' (first | ((first | (with_reducible apply Same.rfl) | (apply Same.int; focus first | omega | (dsimp only; omega)) | (with_reducible apply Frz.l)) <;> conv => whnf) | fail)
    rintro ⟨⟨i, j, w⟩, d⟩
    dsimp only at d ⊢
    have d1 := d.len
    have d2 := d.ij
    have d3 := d.jl
    conv => whnf
    repeat' (first | ((first | (with_reducible apply Nm.set _ (clm_mk _ _ _ _ _)) | ((with_reducible apply Nm.mk); focus ((try simp only [lns]); exact rfl)) | ((with_reducible apply Wr.i64); focus omega) | ((with_reducible apply Need.mk); focus first | omega | (simp only [lns]; omega)) | ((with_reducible apply Elem.lst); focus omega) | (apply CallN.mk (hg _)) | ((with_reducible apply Bif.dec) <;> intro h <;> (try simp only [lns] at h)) | (with_reducible apply Bif.not) | ((with_reducible apply Bif.mk) <;> intro h) | (with_reducible apply Same.rfl) | (with_reducible apply Frz.l)) <;> conv => whnf) | fail)
    · (refine ⟨⟨(i, j + 1, w), d.drop (by omega) (by rw [← d.get (by omega)]; exact h)⟩, ?_⟩; (try dsimp only); conv => whnf); repeat' (first | with_reducible apply True.intro | ((first | ((with_reducible apply Need.mk); focus omega) | (with_reducible apply Same.rfl) | (apply Same.int; focus rfl) | (with_reducible apply Turn.l) | (with_reducible apply Frz.l)) <;> conv => whnf) | fail)
    · (refine ⟨⟨(i + 1, j + 1, w.set i (gt w j)), by show Del p l (i + 1) (j + 1) (w.set i (gt w j)); rw [d.get (by omega)]; exact d.keep (by omega) (by rw [← d.get (by omega)]; exact h)⟩, ?_⟩; (try dsimp only); conv => whnf); repeat' (first | with_reducible apply True.intro | ((first | ((with_reducible apply Need.mk); focus omega) | (with_reducible apply Same.rfl) | (apply Same.int; focus rfl) | (with_reducible apply Turn.l) | (with_reducible apply Frz.l)) <;> conv => whnf) | fail)
    · have hj : j = l.length := by omega
      subst hj
      obtain ⟨f1, f2⟩ := d.done
      have hiw : i ≤ w.length := by omega
      apply Same.mk f2
      conv => whnf
      refine Same.rfl ?_
      conv => whnf
      refine Cut.r ?_
      apply Same.mk (by rw [← f1]; simp [lst, List.map_take, List.take_append_of_le_length, hiw])
      conv => whnf
      repeat' (first | with_reducible apply True.intro | ((with_reducible apply Frz.l) <;> conv => whnf) | fail)
/-- slices.Reverse: the elements in some order. -/
theorem k_Reverse_Clm (l : List Clm) (hl : l.length ≤ 1000000) : ∃ r hp', (∃ w : List Clm, w.length = l.length ∧ (∀ x ∈ w, x ∈ l) ∧ r = .tup [] ∧ hp' = [.arr none 20 (lst clmV w)]) ∧ ConK Tryz.prog 104 [.ov 20 0 0 l.length] [.arr none 20 (lst clmV l)] r hp' := by
  refine spec_of_runRK ttok mixed (T0 := 525) (ts := []) 28 rfl rfl rfl rfl (by simp) rfl ?_
  conv => whnf
  repeat' (first | ((first | ((with_reducible apply Wr.i64); focus omega) | (with_reducible apply Frz.l)) <;> conv => whnf) | fail)
  refine loop_keep ttok mixed (T0 := 525) [0] (ι := {p : Nat × List Clm // p.2.length = l.length ∧ p.1 ≤ l.length ∧ ∀ x ∈ p.2, x ∈ l})
    (fun p => [(2, int (p.1.1 : Int)), (3, int ((l.length : Int) - 1 - p.1.1))]) (fun p => [.arr none 20 (lst clmV p.1.2)]) (fun p => l.length - p.1.1) ⟨(0, l), rfl, by simp, fun _ h => h⟩ ?_
  conv => whnf
  repeat' (first | ((first | (with_reducible apply Same.rfl) | (apply Same.int; focus first | rfl | (dsimp only; omega)) | (with_reducible apply Frz.l)) <;> conv => whnf) | fail)
  rintro ⟨⟨i, w⟩, hw, hi, hm⟩
  dsimp only at hw hi hm ⊢
  conv => whnf
  repeat' (first | ((first | (with_reducible apply Nm.set _ (clm_mk _ _ _ _ _)) | ((with_reducible apply Nm.mk); focus ((try simp only [lns]); exact rfl)) | ((with_reducible apply Wr.i64); focus omega) | ((with_reducible apply Need.mk); focus first | omega | kernel_rfl) | ((with_reducible apply Elem.lst); focus first | omega | (simp only [lns]; omega)) | ((with_reducible apply Bif.dec) <;> intro h <;> (try simp only [lns] at h)) | (with_reducible apply Frz.l)) <;> conv => whnf) | fail)
  · (refine ⟨⟨(i + 1, (w.set i (gt w (((l.length : Int) - 1 - i).toNat))).set (((l.length : Int) - 1 - i).toNat) (gt w i)), by simp [hw], by dsimp only; omega, fun x h => hm x (swap_mem (by omega) (by omega) h)⟩, ?_⟩; (try dsimp only); conv => whnf); repeat' (first | with_reducible apply True.intro | ((first | ((with_reducible apply Need.mk); focus omega) | (with_reducible apply Same.rfl) | (apply Same.int; focus first | rfl | omega) | (with_reducible apply Turn.l) | (with_reducible apply Frz.l)) <;> conv => whnf) | fail)
  · (refine ⟨_, _, ⟨w, hw, hm, rfl, rfl⟩, ?_⟩; conv => whnf); repeat' (first | with_reducible apply True.intro | ((first | (with_reducible apply Same.rfl) | (with_reducible apply Cut.l) | (with_reducible apply Frz.l)) <;> conv => whnf) | fail)
end Go.Fw

/- Slices of Clm: Insert. Written by wip/gen/gen.py. -/
namespace Go.Fw
set_option maxRecDepth 4000
open Go.Proofs
set_option maxHeartbeats 4000000
theorem inst_overlaps_Clm {hp : Nat → Option OB} {ks : List Nat} {k1 k2 : Nat} (hk : k1 ≠ k2) (i1 : k1 ∈ ks) (i2 : k2 ∈ ks) {o1 n1 o2 n2 : Nat} (h1 : 0 < n1) (h2 : 0 < n2) {x1 x2 : Option Nat} {r1 r2 : List SV} (b1 : hp k1 = some (.arr x1 20 r1)) (b2 : hp k2 = some (.arr x2 20 r2)) :
    Inst Tryz.prog 70 [.ov 20 k1 o1 n1, .ov 20 k2 o2 n2] hp ks (.v (.bool false)) :=
  inst_overlaps ttok 27 4 Tryz.func70 (by kernel_rfl) (by kernel_rfl) (by kernel_rfl) (by kernel_rfl) (by decide) rfl hk i1 i2 h1 h2 b1 b2
theorem k_Insert_Clm (rows : List SV) (a : SV) (x : Option Nat) (i : Nat) (hi : i ≤ rows.length) (hl : rows.length ≤ 1000000) : Con Tryz.prog 47 [.ov 20 0 0 rows.length, int i, .ov 20 1 0 1] [.arr none 20 rows, .arr x 20 [a]] (.ov 20 0 0 (rows.length + 1)) [.arr none 20 (rows.take i ++ [a] ++ rows.drop i)] := by
  refine Con.reveal 0 rfl fun C hC => ?_
  have e1 : ((i : Int) + ((1 : Nat) : Int)).toNat = i + 1 := by omega
  have e2 : ((rows.length : Int) + ((1 : Nat) : Int)).toNat = rows.length + 1 := by omega
  rcases Nat.lt_or_ge rows.length C with hC | hC
  · have hj : (List.replicate (C - rows.length) (junk 20)).length = C - rows.length := by simp
    generalize List.replicate (C - rows.length) (junk 20) = js at hj
    show Con _ _ _ [.arr (some C) 20 (rows ++ js), .arr x 20 [a]] _ _
    refine spec_of_run ttok mixed (T0 := 295147905181504570311) (ts := [.tmp 6]) 95 rfl rfl rfl rfl (by simp) rfl ?_
    conv => whnf
    repeat' (first | with_reducible apply True.intro | ((with_reducible apply Alt.r); (with_reducible apply Alt.l); conv => whnf) | ((with_reducible apply Cut.r); (apply Same.mk); (focus ((apply List.ext_getElem?; intro kk; simp only [List.getElem?_append, List.getElem?_take, List.getElem?_drop, List.getElem?_replicate, List.length_append, List.length_take, List.length_drop, List.length_replicate, List.length_cons, List.length_nil, List.getElem?_cons, List.getElem?_nil]; repeat' (split <;> try (exfalso; omega))) <;> first | rfl | (congr 1; omega) | (symm; apply List.getElem?_eq_none; omega) | (apply List.getElem?_eq_none; omega) | (congr 2; omega) | (simp; omega))); (conv => whnf)) | ((first | ((with_reducible apply Nm.mk); focus ((try simp only [lns, e1, e2]); exact rfl)) | ((with_reducible apply Wr.i64); focus omega) | ((with_reducible apply Need.mk); focus first | omega | (simp only [lns, e1, e2]; omega)) | ((with_reducible first | apply Bif.dec | apply Bif.beq) <;> intro h <;> (try simp only [lns, e1, e2] at h) <;> (try (exfalso; omega))) | (with_reducible apply Same.rfl) | (with_reducible apply Frz.l)) <;> conv => whnf) | fail)
    have hi2 : i < rows.length := by omega
    have hj2 : 1 ≤ js.length := by omega
    refine GiveN.inst ?_
    conv => whnf
    refine InstN.mk (inst_overlaps_Clm (ks := [1, 0]) (k1 := 1) (k2 := 0) (by decide) (by decide) (by decide) (by omega) (by omega) rfl rfl) ?_
    conv => whnf
    repeat' (first | ((with_reducible apply Nm.mk (ins1 hi2 hj2 ?_ ?_)) <;> first | omega | (conv => whnf)) | ((with_reducible apply Nm.mk (ins2 hi2 ?_)) <;> first | omega | (conv => whnf)) | ((first | ((with_reducible apply Nm.mk); focus ((try simp only [lns, e1, e2]); exact rfl)) | ((with_reducible apply Wr.i64); focus omega) | ((with_reducible apply Need.mk); focus first | omega | (simp only [lns, e1, e2]; omega) | kernel_rfl) | (with_reducible apply Bif.F) | (with_reducible apply Bif.not) | (with_reducible apply Same.rfl) | (with_reducible apply Frz.l)) <;> conv => whnf) | fail)
    refine Cut.r (Same.mk (ins3 hi) ?_)
    conv => whnf
    repeat' (first | with_reducible apply True.intro | ((with_reducible apply Frz.l) <;> conv => whnf) | fail)
  · have hC2 : C = rows.length := by omega
    subst hC2
    rw [Nat.sub_self, List.replicate_zero, List.append_nil]
    show Con _ _ _ [.arr (some rows.length) 20 rows, .arr x 20 [a]] _ _
    refine spec_of_run ttok mixed (T0 := 295147905181504570311) (ts := [.tmp 6]) 95 rfl rfl rfl rfl (by simp) rfl ?_
    conv => whnf
    rcases Nat.lt_or_ge i rows.length with hi2 | hi2
    · have e3 : ((rows.length : Int) + ((1 : Nat) : Int) - (i : Int)).toNat = rows.length + 1 - i := by omega
      repeat' (first | with_reducible apply True.intro | ((with_reducible apply Nm.mk (ins4 hi2 ?_ ?_)) <;> first | omega | (conv => whnf)) | ((with_reducible apply Nm.mk (ins5 hi2 ?_ ?_)) <;> first | omega | (conv => whnf)) | ((first | ((with_reducible apply Nm.mk); focus ((try simp only [lns, e1, e2, e3]); exact rfl)) | ((with_reducible apply Wr.i64); focus omega) | ((with_reducible apply Need.mk); focus first | omega | (simp only [lns, e1, e2, e3]; omega) | kernel_rfl | (unfold roomOK; simp only [lns, e1, e2, e3]; omega)) | ((with_reducible first | apply Bif.dec | apply Bif.beq) <;> intro h <;> (try simp only [lns, e1, e2, e3] at h) <;> (try (exfalso; omega))) | (with_reducible apply Same.rfl) | ((with_reducible apply Same.mk); focus omega) | (with_reducible apply Cut.l) | (with_reducible apply Frz.l)) <;> conv => whnf) | fail)
    · have e3 : i = rows.length := by omega
      subst e3
      repeat' (first | with_reducible apply True.intro | ((with_reducible apply Alt.r); (with_reducible apply Alt.r); conv => whnf) | ((apply Same.mk (by rw [List.take_length, List.drop_length, List.append_nil])); (conv => whnf)) | ((first | ((with_reducible apply Nm.mk); focus ((try simp only [lns, e1, e2, List.drop_length, List.append_nil]); exact rfl)) | ((with_reducible apply Need.mk); focus first | omega | (simp only [lns, e1, e2, List.drop_length, List.append_nil]; omega) | (unfold roomOK; simp only [lns, e1, e2, List.drop_length, List.append_nil]; omega)) | ((with_reducible apply Bif.beq) <;> intro h <;> (try simp only [lns, e1, e2, List.drop_length, List.append_nil] at h) <;> (try (exfalso; omega))) | (with_reducible apply Same.rfl) | (with_reducible apply Cut.l) | (with_reducible apply Frz.l)) <;> conv => whnf) | fail)
end Go.Fw
