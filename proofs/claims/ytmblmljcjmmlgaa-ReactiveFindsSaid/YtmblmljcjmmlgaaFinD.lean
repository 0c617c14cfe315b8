/- ReactiveFinds: the graph in memory; spread. -/
import Derived.Test.YtmblmljcjmmlgaaFinC
namespace Go.Fw
open Go.Proofs
set_option maxHeartbeats 8000000
set_option maxRecDepth 8000
namespace Fnd
def airV (a : Air) : SV := .agg [int (a.to : Int), int (a.fr : Int), msgV a.m]
theorem air_mk (a b : Nat) (m : Msg) : SV.agg [int (a : Int), int (b : Int), msgV m] = airV ⟨a, b, m⟩ := rfl
def rowA (A : Nat → Nat → Bool) (i : Nat) : SV := .agg [bool (A i 0), bool (A i 1), bool (A i 2), bool (A i 3), bool (A i 4), bool (A i 5)]
def linkV (A : Nat → Nat → Bool) : SV := .agg [rowA A 0, rowA A 1, rowA A 2, rowA A 3, rowA A 4, rowA A 5]
theorem cell_at (A : Nat → Nat → Bool) (i : Nat) {j : Nat} (h : j < 6) : ([bool (A i 0), bool (A i 1), bool (A i 2), bool (A i 3), bool (A i 4), bool (A i 5)] : List SV)[j]? = some (bool (A i j)) := by
  match j, h with
  | 0, _ => rfl
  | 1, _ => rfl
  | 2, _ => rfl
  | 3, _ => rfl
  | 4, _ => rfl
  | 5, _ => rfl
theorem row_at (A : Nat → Nat → Bool) {i : Nat} (h : i < 6) : ([rowA A 0, rowA A 1, rowA A 2, rowA A 3, rowA A 4, rowA A 5] : List SV)[i]? = some (rowA A i) := by
  match i, h with
  | 0, _ => rfl
  | 1, _ => rfl
  | 2, _ => rfl
  | 3, _ => rfl
  | 4, _ => rfl
  | 5, _ => rfl
theorem sprM_snoc {A : Nat → Nat → Bool} {n x : Nat} {l : List Snd} {k : Nat} (h : k < l.length) : sprM A n x (l.take (k + 1)) = sprM A n x (l.take k) ++ spr1 A x (gt l k) n := by
  unfold sprM
  rw [take_gt h, List.flatMap_append, List.flatMap_singleton]
theorem spr1_len {A : Nat → Nat → Bool} {x : Nat} {s : Snd} (k : Nat) : (spr1 A x s k).length ≤ k := by
  unfold spr1
  have := List.length_filter_le (hits A x s) (List.range k)
  rw [List.length_range] at this
  rw [List.length_map]; exact this
theorem sprM_len {A : Nat → Nat → Bool} {n x : Nat} : ∀ (l : List Snd), (sprM A n x l).length ≤ l.length * n
  | [] => by simp [sprM]
  | s :: l => by
    have h1 := sprM_len (A := A) (n := n) (x := x) l
    have h2 := spr1_len (A := A) (x := x) (s := s) n
    have e : sprM A n x (s :: l) = spr1 A x s n ++ sprM A n x l := by simp [sprM]
    rw [e, List.length_append, List.length_cons, Nat.add_mul]
    omega
theorem k_spread (n x : Nat) (hn : n ≤ 5) (hx : x < n) (A : Nat → Nat → Bool) (R : List Rea) (hR : R.length = n) (l : List Snd) (hl : l.length ≤ 1) :
    ConK Try.prog 28 [.pb 0 [], int (x : Int), .ov 9 1 0 l.length] [.cells (.agg [.ov 5 2 0 n, linkV A]), .arr none 9 (lst sndV l), .arr none 5 (lst reaF R)]
      (.ov 10 3 0 (sprM A n x l).length) [.cells (.agg [.ov 5 2 0 n, linkV A]), .arr none 9 (lst sndV l), .arr none 5 (lst reaF R), .arr none 10 (lst airV (sprM A n x l))] := by
  refine spec_of_runK ttok mixed (T0 := 35184386801351) (ts := [.tmp 6]) 57 rfl rfl rfl rfl (by simp) rfl ?_
  conv => whnf
  repeat' (first | ((with_reducible apply Frz.l) <;> conv => whnf) | fail)
  refine LoopN.adopt 7 10 rfl (by simp) ?_
  refine loop_keep ttok mixed (T0 := 35184386801351) [1, 12] (ι := {k : Nat // k ≤ l.length})
    (fun q => [(0, .pb 0 []), (11, .ov 9 1 0 l.length), (7, .ov 10 3 0 (sprM A n x (l.take q.1)).length), (13, int (q.1 : Int))])
    (fun q => [.cells (.agg [.ov 5 2 0 n, linkV A]), .arr none 9 (lst sndV l), .arr none 5 (lst reaF R), .arr none 10 (lst airV (sprM A n x (l.take q.1)))]) (fun q => l.length - q.1) ⟨0, Nat.zero_le _⟩ ?_
  conv => whnf
  repeat' (first | ((first | (with_reducible apply Same.rfl) | (apply Same.int; focus rfl) | (apply Same.ov; (focus rfl); focus rfl) | (apply Same.rfl) | (with_reducible apply Frz.l)) <;> conv => whnf) | fail)
  rintro ⟨k, hk⟩
  dsimp only
  conv => whnf
  by_cases hkl : k < l.length
  · have hs := sprM_snoc (A := A) (n := n) (x := x) hkl
    have b1 := sprM_len (A := A) (n := n) (x := x) (l.take k)
    rw [List.length_take] at b1
    have b2 : min k l.length * n ≤ 5 := by
      have : min k l.length = 0 := by omega
      rw [this]; omega
    repeat' (first | ((first | ((with_reducible apply Nm.mk); focus ((try simp only [lns]); exact rfl)) | ((with_reducible apply Need.mk); focus omega) | ((with_reducible apply Elem.lst); focus omega) | ((with_reducible apply Bif.dec) <;> intro h <;> (try simp only [lns] at h) <;> (try (exfalso; omega))) | (with_reducible apply Frz.l)) <;> conv => whnf) | fail)
    refine loop_keep ttok mixed (T0 := 35184386801351) [1, 12, 13, 21] (ι := {j : Nat // j ≤ n})
      (fun q => [(0, .pb 0 []), (11, .ov 9 1 0 l.length), (9, .pb 4 []), (7, .ov 10 3 0 (sprM A n x (l.take k) ++ spr1 A x (gt l k) q.1).length), (22, int (q.1 : Int))])
      (fun q => [.cells (.agg [.ov 5 2 0 n, linkV A]), .arr none 9 (lst sndV l), .arr none 5 (lst reaF R), .arr none 10 (lst airV (sprM A n x (l.take k) ++ spr1 A x (gt l k) q.1)), .cells (sndV (gt l k))]) (fun q => n - q.1) ⟨0, Nat.zero_le _⟩ ?_
    have e0 : sprM A n x (l.take k) ++ spr1 A x (gt l k) 0 = sprM A n x (l.take k) := List.append_nil _
    conv => whnf
    repeat' (first | ((rw [e0]); (conv => whnf)) | ((first | (with_reducible apply Same.rfl) | (apply Same.int; focus rfl) | (with_reducible apply Frz.l)) <;> conv => whnf) | fail)
    rintro ⟨j, hj⟩
    dsimp only
    conv => whnf
    have b3 := spr1_len (A := A) (x := x) (s := gt l k) j
    by_cases hjn : j < n
    · have hx1 := row_at A (i := x) (by omega)
      have hx2 := cell_at A x (j := j) (by omega)
      have hsu := spr1_succ A x (gt l k) j
      have b4 : (spr1 A x (gt l k) j).length ≤ 5 := by omega
      repeat' (first | ((apply Elem.mk _ hx1); (conv => whnf)) | ((apply Elem.mk _ hx2); (conv => whnf)) | ((first | (with_reducible apply Nm.snoc _ (air_mk _ _ _)) | ((with_reducible apply Nm.mk); focus ((try simp only [lns]); exact rfl)) | ((with_reducible first | apply Wr.i64 | apply Wr.u64); focus omega) | ((with_reducible apply Need.mk); focus first | omega | (simp only [lns]; omega) | kernel_rfl | (unfold roomOK; simp only [lns]; omega)) | (with_reducible first | apply Bif.T | apply Bif.F) | ((with_reducible first | apply Bif.dec | apply Bif.beq) <;> intro h <;> (try simp only [lns] at h) <;> (try (exfalso; omega))) | ((with_reducible apply Bif.mk) <;> intro h) | (with_reducible apply Alt.l) | (with_reducible apply Frz.l)) <;> conv => whnf) | fail)
      all_goals first
        | (have hh : hits A x (gt l k) j = true := by simp_all [hits]
           rw [if_pos hh] at hsu
           have e1 : sprM A n x (l.take k) ++ spr1 A x (gt l k) (j + 1) = sprM A n x (l.take k) ++ spr1 A x (gt l k) j ++ [⟨j, x, (gt l k).msg⟩] := by rw [hsu, List.append_assoc]
           (refine ⟨⟨j + 1, hjn⟩, ?_⟩; (try dsimp only); conv => whnf); repeat' (first | with_reducible apply True.intro | ((rw [e1]); (conv => whnf)) | ((first | ((with_reducible apply Need.mk); focus omega) | (with_reducible apply Same.rfl) | (apply Same.int; focus rfl) | (apply Same.ov; (focus rfl); focus (simp only [lns]; first | done | omega)) | (with_reducible apply Turn.l) | (with_reducible apply Frz.l)) <;> conv => whnf) | fail)
           done)
        | (have hh : ¬ hits A x (gt l k) j = true := by simp_all [hits]
           rw [if_neg hh, List.append_nil] at hsu
           have e1 : sprM A n x (l.take k) ++ spr1 A x (gt l k) (j + 1) = sprM A n x (l.take k) ++ spr1 A x (gt l k) j := by rw [hsu]
           (refine ⟨⟨j + 1, hjn⟩, ?_⟩; (try dsimp only); conv => whnf); repeat' (first | with_reducible apply True.intro | ((rw [e1]); (conv => whnf)) | ((first | ((with_reducible apply Need.mk); focus omega) | (with_reducible apply Same.rfl) | (apply Same.int; focus rfl) | (with_reducible apply Turn.l) | (with_reducible apply Frz.l)) <;> conv => whnf) | fail)
           done)
        | skip
    · obtain rfl : n = j := by omega
      repeat' (first | ((first | ((with_reducible apply Wr.i64); focus omega) | ((with_reducible apply Bif.dec) <;> intro h <;> (try simp only [lns] at h) <;> (try (exfalso; omega))) | (with_reducible apply Frz.l)) <;> conv => whnf) | fail)
      (refine ⟨⟨k + 1, hkl⟩, ?_⟩; (try dsimp only); conv => whnf); repeat' (first | with_reducible apply True.intro | ((rw [hs]); (conv => whnf)) | ((first | ((with_reducible apply Need.mk); focus omega) | (with_reducible apply Same.rfl) | (apply Same.int; focus rfl) | (with_reducible apply Turn.l) | (with_reducible apply Frz.l)) <;> conv => whnf) | fail)
  · obtain rfl : k = l.length := by omega
    have e2 : l.take l.length = l := List.take_length
    rw [e2]
    repeat' (first | with_reducible apply True.intro | ((first | ((with_reducible apply Bif.dec) <;> intro h <;> (try simp only [lns] at h) <;> (try (exfalso; omega))) | (with_reducible apply Same.rfl) | (with_reducible apply Cut.l) | (with_reducible apply Frz.l)) <;> conv => whnf) | fail)
  done
end Fnd
end Go.Fw
