/- Slices of Buf: the functions of Go's package slices. Written by wip/gen/gen.py. -/
import Derived.Test.YteebplkhnhpiiaaRasD
namespace Go.Fw
set_option maxRecDepth 4000
open Go.Proofs
set_option maxHeartbeats 4000000
theorem k_Delete_Buf (rows : List SV) (i : Nat) (hi : i < rows.length) (hl : rows.length ≤ 1000000) : Con Try.prog 42 [.ov 10 0 0 rows.length, int i, int (i + 1)] [.arr none 10 rows] (.ov 10 0 0 (rows.length - 1)) [.arr none 10 (rows.take i ++ rows.drop (i + 1))] := by
  refine spec_of_run ttok mixed (T0 := 65735) (ts := [.tmp 6]) 33 rfl rfl rfl rfl (by simp) rfl ?_
  conv => whnf
  have e1 : ((i : Int) + 1).toNat = i + 1 := by omega
  repeat' (first | with_reducible apply True.intro | ((with_reducible apply Alt.r); (with_reducible apply Alt.l); conv => whnf) | ((with_reducible apply Cut.r); (apply Same.mk); (focus ((apply List.ext_getElem?; intro kk; simp only [List.getElem?_append, List.getElem?_take, List.getElem?_drop, List.getElem?_replicate, List.length_append, List.length_take, List.length_drop, List.length_replicate, List.length_cons, List.length_nil, List.getElem?_cons, List.getElem?_nil]; repeat' (split <;> try (exfalso; omega))) <;> first | rfl | (congr 1; omega) | (symm; apply List.getElem?_eq_none; omega) | (apply List.getElem?_eq_none; omega) | (congr 2; omega) | (simp; omega))); (conv => whnf)) | ((first | ((with_reducible apply Nm.mk); focus ((try simp only [lns, e1, Nat.min_self]); exact rfl)) | ((with_reducible apply Need.mk); focus first | omega | (simp only [lns, e1, Nat.min_self]; omega) | kernel_rfl) | ((with_reducible apply Bif.beq) <;> intro h <;> (try simp only [lns, e1, Nat.min_self] at h) <;> (try (exfalso; omega))) | (with_reducible apply Same.rfl) | ((with_reducible apply Same.mk); focus omega) | (with_reducible apply Sl3.l) | (with_reducible apply Frz.l)) <;> conv => whnf) | fail)
/-- slices.IndexFunc, with a closure over a number. -/
theorem k_IndexFunc_Buf (g : FuncId) (now : Buf) (p : Buf → Bool) (hg : ∀ a, Con Try.prog g [bufV a, .pb 0 []] [.cells (bufV now)] (bool (p a)) [.cells (bufV now)]) (l : List Buf) (t : Tg) (hl : l.length ≤ 1000000) :
    Con Try.prog 37 [.fs t 10 (lst bufV l), .clo g [.pb 0 []]] [.cells (bufV now)] (int (idxF p l)) [.cells (bufV now)] := by
  refine spec_of_run ttok mixed (T0 := 66483) (ts := [.tmp 4]) 19 rfl rfl rfl rfl (by simp) rfl ?_
  conv => whnf
  repeat' (first | ((first | ((with_reducible apply Nm.mk); focus ((try simp only [lns]); exact rfl)) | (with_reducible apply Frz.l)) <;> conv => whnf) | fail)
  refine loop_keep ttok mixed (T0 := 66483) [0, 1, 7] (ι := {k : Nat // k ≤ l.length ∧ ∀ j, j < k → p (gt l j) = false})
    (fun k => [(8, int (k.1 : Int))]) (fun _ => [.cells (bufV now)]) (fun k => l.length - k.1) ⟨0, by omega, none_lt⟩ ?_
  conv => whnf
  repeat' (first | ((first | (with_reducible apply Same.rfl) | (apply Same.int; focus rfl) | (with_reducible apply Frz.l)) <;> conv => whnf) | fail)
  rintro ⟨k, hk, he⟩
  dsimp only
  conv => whnf
  repeat' (first | ((first | ((with_reducible apply Nm.mk); focus ((try simp only [lns]); exact rfl)) | ((with_reducible apply Wr.i64); focus omega) | ((with_reducible apply Need.mk); focus (simp only [lns]; omega)) | ((with_reducible apply Elem.lst); focus omega) | (apply CallN.mk (hg _)) | ((with_reducible apply Bif.dec) <;> intro h <;> (try simp only [lns] at h)) | ((with_reducible apply Bif.mk) <;> intro h) | (with_reducible apply Frz.l)) <;> conv => whnf) | fail)
  · apply Same.int (idxF_some (by omega) h he).symm
    conv => whnf
    repeat' (first | with_reducible apply True.intro | ((first | (with_reducible apply Same.rfl) | (with_reducible apply Frz.l)) <;> conv => whnf) | fail)
  · (refine ⟨⟨k + 1, by omega, step_lt he h⟩, ?_⟩; (try dsimp only); conv => whnf); repeat' (first | with_reducible apply True.intro | ((first | ((with_reducible apply Need.mk); focus omega) | (with_reducible apply Same.rfl) | (apply Same.int; focus rfl) | (with_reducible apply Turn.l) | (with_reducible apply Frz.l)) <;> conv => whnf) | fail)
  · have hkl : k = l.length := by omega
    subst hkl
    apply Same.int (idxF_none he).symm
    conv => whnf
    repeat' (first | with_reducible apply True.intro | ((first | (with_reducible apply Same.rfl) | (with_reducible apply Frz.l)) <;> conv => whnf) | fail)
end Go.Fw
