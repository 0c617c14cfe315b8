/- Slices of Clm: Insert. Written by wip/gen/gen.py. -/
import Derived.Test.YtpmiaggdjgfjgaaSlClm
namespace Go.Fw
set_option maxRecDepth 4000
open Go.Proofs
set_option maxHeartbeats 4000000
theorem inst_overlaps_Clm {hp : Nat → Option OB} {ks : List Nat} {k1 k2 : Nat} (hk : k1 ≠ k2) (i1 : k1 ∈ ks) (i2 : k2 ∈ ks) {o1 n1 o2 n2 : Nat} (h1 : 0 < n1) (h2 : 0 < n2) {x1 x2 : Option Nat} {r1 r2 : List SV} (b1 : hp k1 = some (.arr x1 20 r1)) (b2 : hp k2 = some (.arr x2 20 r2)) :
    Inst Try.prog 78 [.ov 20 k1 o1 n1, .ov 20 k2 o2 n2] hp ks (.v (.bool false)) :=
  inst_overlaps ttok 27 4 Try.func78 (by kernel_rfl) (by kernel_rfl) (by kernel_rfl) (by kernel_rfl) (by decide) rfl hk i1 i2 h1 h2 b1 b2
theorem k_Insert_Clm (rows : List SV) (a : SV) (x : Option Nat) (i : Nat) (hi : i ≤ rows.length) (hl : rows.length ≤ 1000000) : Con Try.prog 57 [.ov 20 0 0 rows.length, int i, .ov 20 1 0 1] [.arr none 20 rows, .arr x 20 [a]] (.ov 20 0 0 (rows.length + 1)) [.arr none 20 (rows.take i ++ [a] ++ rows.drop i)] := by
  refine Con.reveal 0 rfl fun C hC => ?_
  have e1 : ((i : Int) + ((1 : Nat) : Int)).toNat = i + 1 := by omega
  have e2 : ((rows.length : Int) + ((1 : Nat) : Int)).toNat = rows.length + 1 := by omega
  rcases Nat.lt_or_ge rows.length C with hC | hC
  · have hj : (List.replicate (C - rows.length) (junk 20)).length = C - rows.length := by simp
    generalize List.replicate (C - rows.length) (junk 20) = js at hj
    show Con _ _ _ [.arr (some C) 20 (rows ++ js), .arr x 20 [a]] _ _
    refine spec_of_run ttok mixed (T0 := 295147905181504570311) (ts := [.tmp 6]) 95 rfl rfl rfl rfl (by simp) rfl ?_
    conv => whnf
    repeat' (first | with_reducible apply True.intro | ((with_reducible apply Alt.r); (with_reducible apply Alt.l); conv => whnf) | ((with_reducible apply Cut.r); (apply Same.mk); (focus ((apply List.ext_getElem?; intro kk; simp only [List.getElem?_append, List.getElem?_take, List.getElem?_drop, List.getElem?_replicate, List.length_append, List.length_take, List.length_drop, List.length_replicate, List.length_cons, List.length_nil, List.getElem?_cons, List.getElem?_nil]; repeat' (split <;> try (exfalso; omega))) <;> first | rfl | (congr 1; omega) | (symm; apply List.getElem?_eq_none; omega) | (apply List.getElem?_eq_none; omega) | (congr 2; omega) | (simp; omega))); (conv => whnf)) | ((first | ((with_reducible apply Nm.mk); focus ((try simp only [lns, e1, e2]); exact rfl)) | ((with_reducible apply Wr.i64); focus omega) | ((with_reducible apply Need.mk); focus first | omega | (simp only [lns, e1, e2]; omega)) | ((with_reducible first | apply Bif.dec | apply Bif.beq) <;> intro h <;> (try simp only [lns, e1, e2] at h) <;> (try (exfalso; omega))) | (with_reducible apply Same.rfl)) <;> conv => whnf) | fail)
    have hi2 : i < rows.length := by omega
    have hj2 : 1 ≤ js.length := by omega
    refine GiveN.inst ?_
    conv => whnf
    refine InstN.mk (inst_overlaps_Clm (ks := [1, 0]) (k1 := 1) (k2 := 0) (by decide) (by decide) (by decide) (by omega) (by omega) rfl rfl) ?_
    conv => whnf
    repeat' (first | ((with_reducible apply Nm.mk (ins1 hi2 hj2 ?_ ?_)) <;> first | omega | (conv => whnf)) | ((with_reducible apply Nm.mk (ins2 hi2 ?_)) <;> first | omega | (conv => whnf)) | ((first | ((with_reducible apply Nm.mk); focus ((try simp only [lns, e1, e2]); exact rfl)) | ((with_reducible apply Wr.i64); focus omega) | ((with_reducible apply Need.mk); focus first | omega | (simp only [lns, e1, e2]; omega) | kernel_rfl) | (with_reducible apply Bif.F) | (with_reducible apply Bif.not) | (with_reducible apply Same.rfl)) <;> conv => whnf) | fail)
    refine Cut.r (Same.mk (ins3 hi) ?_)
    conv => whnf
    repeat' (first | with_reducible apply True.intro | fail)
  · have hC2 : C = rows.length := by omega
    subst hC2
    rw [Nat.sub_self, List.replicate_zero, List.append_nil]
    show Con _ _ _ [.arr (some rows.length) 20 rows, .arr x 20 [a]] _ _
    refine spec_of_run ttok mixed (T0 := 295147905181504570311) (ts := [.tmp 6]) 95 rfl rfl rfl rfl (by simp) rfl ?_
    conv => whnf
    rcases Nat.lt_or_ge i rows.length with hi2 | hi2
    · have e3 : ((rows.length : Int) + ((1 : Nat) : Int) - (i : Int)).toNat = rows.length + 1 - i := by omega
      repeat' (first | with_reducible apply True.intro | ((with_reducible apply Nm.mk (ins4 hi2 ?_ ?_)) <;> first | omega | (conv => whnf)) | ((with_reducible apply Nm.mk (ins5 hi2 ?_ ?_)) <;> first | omega | (conv => whnf)) | ((first | ((with_reducible apply Nm.mk); focus ((try simp only [lns, e1, e2, e3]); exact rfl)) | ((with_reducible apply Wr.i64); focus omega) | ((with_reducible apply Need.mk); focus first | omega | (simp only [lns, e1, e2, e3]; omega) | kernel_rfl | (unfold roomOK; simp only [lns, e1, e2, e3]; omega)) | ((with_reducible first | apply Bif.dec | apply Bif.beq) <;> intro h <;> (try simp only [lns, e1, e2, e3] at h) <;> (try (exfalso; omega))) | (with_reducible apply Same.rfl) | ((with_reducible apply Same.mk); focus omega) | (with_reducible apply Cut.l)) <;> conv => whnf) | fail)
    · have e3 : i = rows.length := by omega
      subst e3
      repeat' (first | with_reducible apply True.intro | ((with_reducible apply Alt.r); (with_reducible apply Alt.r); conv => whnf) | ((apply Same.mk (by rw [List.take_length, List.drop_length, List.append_nil])); (conv => whnf)) | ((first | ((with_reducible apply Nm.mk); focus ((try simp only [lns, e1, e2, List.drop_length, List.append_nil]); exact rfl)) | ((with_reducible apply Need.mk); focus first | omega | (simp only [lns, e1, e2, List.drop_length, List.append_nil]; omega) | (unfold roomOK; simp only [lns, e1, e2, List.drop_length, List.append_nil]; omega)) | ((with_reducible apply Bif.beq) <;> intro h <;> (try simp only [lns, e1, e2, List.drop_length, List.append_nil] at h) <;> (try (exfalso; omega))) | (with_reducible apply Same.rfl) | (with_reducible apply Cut.l)) <;> conv => whnf) | fail)
end Go.Fw
