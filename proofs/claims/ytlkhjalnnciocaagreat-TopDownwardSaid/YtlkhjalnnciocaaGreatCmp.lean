/- Comparisons: bytes.Compare, cmp.Compare, cmp.Or, addresses. -/
import Derived.Test.YtlkhjalnnciocaaGreatSanJ
namespace Go.Fw
set_option maxRecDepth 4000
open Go.Proofs
set_option maxHeartbeats 4000000
theorem ipRows_take (a : IP) : (bytesRows a.1).take 16 = bytesRows a.1 := List.take_of_length_le (by simp [bytesRows, a.2.1])
theorem k_bytesCompare (a b : IP) (t1 t2 : Tg) : Con Tryz.prog 186 [.fs t1 1 (bytesRows a.1), .fs t2 1 (bytesRows b.1)] [] (int (cmpB a.1 b.1)) [] := by
  refine spec_of_run ttok mixed (T0 := 19) (ts := [.tmp 4]) 8 rfl rfl rfl rfl (by simp) rfl ?_
  conv => whnf
  repeat' (first | with_reducible apply True.intro | ((first | (apply CallN.mk (con_compare Tryz.func212 (by kernel_rfl) (by kernel_rfl) (by kernel_rfl) (by kernel_rfl) a.1 b.1 t1 t2 a.2.2 b.2.2)) | (apply Same.int; focus rfl) | (with_reducible apply Frz.l)) <;> conv => whnf) | fail)
def cmpIP (a b : IP) : Int := cmpB a.1 b.1
theorem cmpB_lt : ∀ {a b : List Int} {i : Nat}, i < a.length → i < b.length → (∀ j, j < i → gt a j = gt b j) → gt a i < gt b i → cmpB a b = -1
  | x :: a, y :: b, 0, _, _, _, h => by
    have h : x < y := h
    simp [cmpB, h]
  | x :: a, y :: b, i + 1, h1, h2, h3, h4 => by
    have h0 : x = y := h3 0 (by omega)
    subst h0
    simp only [cmpB, Int.lt_irrefl, if_false]
    exact cmpB_lt (i := i) (by simpa using h1) (by simpa using h2) (fun j hj => h3 (j + 1) (by omega)) h4
theorem cmpB_gt : ∀ {a b : List Int} {i : Nat}, i < a.length → i < b.length → (∀ j, j < i → gt a j = gt b j) → gt b i < gt a i → cmpB a b = 1
  | x :: a, y :: b, 0, _, _, _, h => by
    have h : y < x := h
    have h2 : ¬ x < y := by omega
    simp [cmpB, h, h2]
  | x :: a, y :: b, i + 1, h1, h2, h3, h4 => by
    have h0 : x = y := h3 0 (by omega)
    subst h0
    simp only [cmpB, Int.lt_irrefl, if_false]
    exact cmpB_gt (i := i) (by simpa using h1) (by simpa using h2) (fun j hj => h3 (j + 1) (by omega)) h4
theorem cmpB_refl : ∀ (a : List Int), cmpB a a = 0
  | [] => rfl
  | x :: a => by simp only [cmpB, Int.lt_irrefl, if_false]; exact cmpB_refl a
theorem cmpB_range : ∀ (a b : List Int), cmpB a b = -1 ∨ cmpB a b = 0 ∨ cmpB a b = 1
  | [], [] => .inr (.inl rfl)
  | [], _ :: _ => .inl rfl
  | _ :: _, [] => .inr (.inr rfl)
  | x :: a, y :: b => by
    simp only [cmpB]
    split
    · exact .inl rfl
    · split
      · exact .inr (.inr rfl)
      · exact cmpB_range a b
theorem cmpB_zero : ∀ {a b : List Int}, cmpB a b = 0 → a = b
  | [], [], _ => rfl
  | [], _ :: _, h => by simp [cmpB] at h
  | _ :: _, [], h => by simp [cmpB] at h
  | x :: a, y :: b, h => by
    simp only [cmpB] at h
    split at h
    · omega
    · split at h
      · omega
      · rw [cmpB_zero h, show x = y by omega]
theorem cmpB_anti : ∀ (a b : List Int), cmpB a b = - cmpB b a
  | [], [] => rfl
  | [], _ :: _ => rfl
  | _ :: _, [] => rfl
  | x :: a, y :: b => by
    simp only [cmpB]
    by_cases h1 : x < y
    · have h2 : ¬ y < x := by omega
      simp [h1, h2]
    · by_cases h2 : y < x
      · simp [h1, h2]
      · simp only [h1, h2, if_false]; exact cmpB_anti a b
theorem cmpB_trans : ∀ {a b c : List Int}, cmpB a b < 0 → cmpB b c < 0 → cmpB a c < 0
  | [], [], _, h, _ => by simp [cmpB] at h
  | [], _ :: _, [], _, h => by simp [cmpB] at h
  | [], _ :: _, _ :: _, _, _ => by simp [cmpB]
  | _ :: _, [], _, h, _ => by simp [cmpB] at h
  | _ :: _, _ :: _, [], _, h => by simp [cmpB] at h
  | x :: a, y :: b, z :: c, h1, h2 => by
    simp only [cmpB] at h1 h2 ⊢
    split at h1
    · split at h2
      · rw [if_pos (by omega)]; omega
      · split at h2
        · omega
        · rw [if_pos (by omega)]; omega
    · split at h1
      · omega
      · split at h2
        · rw [if_pos (by omega)]; omega
        · split at h2
          · omega
          · rw [if_neg (by omega), if_neg (by omega)]
            exact cmpB_trans h1 h2
theorem cmpIP_range (a b : IP) : cmpIP a b = -1 ∨ cmpIP a b = 0 ∨ cmpIP a b = 1 := cmpB_range _ _
theorem cmpIP_refl (a : IP) : cmpIP a a = 0 := cmpB_refl _
theorem cmpIP_zero {a b : IP} (h : cmpIP a b = 0) : a = b := ip_ext (cmpB_zero h)
theorem cmpIP_anti (a b : IP) : cmpIP a b = - cmpIP b a := cmpB_anti _ _
theorem cmpIP_trans {a b c : IP} (h : cmpIP a b < 0) (g : cmpIP b c < 0) : cmpIP a c < 0 := cmpB_trans h g
/-- cmp.Compare -/
def cmpI (x y : Int) : Int := if x < y then -1 else if x > y then 1 else 0
theorem k_isNaN_int (x : Int) : Con Tryz.prog 209 [int x] [] (bool false) [] := by
  refine spec_of_run ttok mixed (T0 := 5) (ts := [.tmp 2]) 6 rfl rfl rfl rfl (by simp) rfl ?_
  conv => whnf
  repeat' (first | ((with_reducible apply Frz.l) <;> conv => whnf) | fail)
  all_goals (apply Same.bool (by simp); (conv => whnf); repeat' (first | with_reducible apply True.intro | ((with_reducible apply Frz.l) <;> conv => whnf) | fail))
theorem k_cmp_int (x y : Int) : Con Tryz.prog 182 [int x, int y] [] (int (cmpI x y)) [] := by
  refine spec_of_run ttok mixed (T0 := 604275) (ts := [.tmp 4]) 20 rfl rfl rfl rfl (by simp) rfl ?_
  conv => whnf
  repeat' (first | ((first | (apply CallN.mk (k_isNaN_int _)) | (with_reducible apply Bif.F) | ((with_reducible apply Bif.dec) <;> intro h <;> (try simp only [lns] at h)) | (with_reducible apply Frz.l)) <;> conv => whnf) | fail)
  all_goals (apply Same.int (by unfold cmpI; (repeat' split) <;> omega); (conv => whnf); repeat' (first | with_reducible apply True.intro | ((with_reducible apply Frz.l) <;> conv => whnf) | fail))
theorem k_isNaN_EUI (x : Int) : Con Tryz.prog 211 [u64 x] [] (bool false) [] := by
  refine spec_of_run ttok mixed (T0 := 5) (ts := [.tmp 2]) 6 rfl rfl rfl rfl (by simp) rfl ?_
  conv => whnf
  repeat' (first | ((with_reducible apply Frz.l) <;> conv => whnf) | fail)
  all_goals (apply Same.bool (by simp); (conv => whnf); repeat' (first | with_reducible apply True.intro | ((with_reducible apply Frz.l) <;> conv => whnf) | fail))
theorem k_cmp_EUI (x y : Int) : Con Tryz.prog 184 [u64 x, u64 y] [] (int (cmpI x y)) [] := by
  refine spec_of_run ttok mixed (T0 := 604275) (ts := [.tmp 4]) 20 rfl rfl rfl rfl (by simp) rfl ?_
  conv => whnf
  repeat' (first | ((first | (apply CallN.mk (k_isNaN_EUI _)) | (with_reducible apply Bif.F) | ((with_reducible apply Bif.dec) <;> intro h <;> (try simp only [lns] at h)) | (with_reducible apply Frz.l)) <;> conv => whnf) | fail)
  all_goals (apply Same.int (by unfold cmpI; (repeat' split) <;> omega); (conv => whnf); repeat' (first | with_reducible apply True.intro | ((with_reducible apply Frz.l) <;> conv => whnf) | fail))
/-- cmp.Or -/
def orL : List Int → Int
  | [] => 0
  | x :: l => if x ≠ 0 then x else orL l
theorem orL_at : ∀ {l : List Int} {k : Nat}, k < l.length → (∀ j, j < k → gt l j = 0) → gt l k ≠ 0 → orL l = gt l k
  | x :: l, 0, _, _, h => by
    have h : x ≠ 0 := h
    simp [orL, h, gt]
  | x :: l, k + 1, h1, h2, h3 => by
    have h0 : x = 0 := h2 0 (by omega)
    subst h0
    simp only [orL, ne_eq, not_true_eq_false, if_false]
    exact orL_at (l := l) (k := k) (by simpa using h1) (fun j hj => h2 (j + 1) (by omega)) h3
theorem orL_none : ∀ {l : List Int}, (∀ j, j < l.length → gt l j = 0) → orL l = 0
  | [], _ => rfl
  | x :: l, h => by
    have h0 : x = 0 := h 0 (by simp)
    subst h0
    simp only [orL, ne_eq, not_true_eq_false, if_false]
    exact orL_none fun j hj => h (j + 1) (by simpa using hj)
theorem k_Or (l : List Int) (t : Tg) (hl : l.length ≤ 1000) : Con Tryz.prog 121 [.fs t 1 (ints l)] [] (int (orL l)) [] := by
  refine spec_of_run ttok mixed (T0 := 17389) (ts := [.tmp 2]) 18 rfl rfl rfl rfl (by simp) rfl ?_
  conv => whnf
  repeat' (first | ((first | ((with_reducible apply Nm.mk); focus ((try simp only [lns]); exact rfl)) | (with_reducible apply Frz.l)) <;> conv => whnf) | fail)
  refine loop_keep ttok mixed (T0 := 17389) [3, 6, 7] (ι := {k : Nat // k ≤ l.length ∧ ∀ j, j < k → gt l j = 0})
    (fun k => [(8, int (k.1 : Int))]) (fun _ => []) (fun k => l.length - k.1) ⟨0, by omega, none_lt⟩ ?_
  conv => whnf
  repeat' (first | ((first | (with_reducible apply Same.rfl) | (apply Same.int; focus rfl) | (with_reducible apply Frz.l)) <;> conv => whnf) | fail)
  rintro ⟨k, hk, he⟩
  dsimp only
  conv => whnf
  repeat' (first | ((first | ((with_reducible apply Nm.mk); focus ((try simp only [lns]); exact rfl)) | ((with_reducible apply Wr.i64); focus omega) | ((with_reducible apply Need.mk); focus (simp only [lns]; omega)) | ((with_reducible apply Elem.lst); focus omega) | ((with_reducible first | apply Bif.dec | apply Bif.bne) <;> intro h <;> (try simp only [lns] at h)) | (with_reducible apply Frz.l)) <;> conv => whnf) | fail)
  · apply Same.int (orL_at (by omega) he h).symm
    conv => whnf
    repeat' (first | with_reducible apply True.intro | ((with_reducible apply Frz.l) <;> conv => whnf) | fail)
  · (refine ⟨⟨k + 1, by omega, step_lt he h⟩, ?_⟩; (try dsimp only); conv => whnf); repeat' (first | with_reducible apply True.intro | ((first | ((with_reducible apply Need.mk); focus omega) | (with_reducible apply Same.rfl) | (apply Same.int; focus rfl) | (with_reducible apply Turn.l) | (with_reducible apply Frz.l)) <;> conv => whnf) | fail)
  · have hkl : k = l.length := by omega
    subst hkl
    apply Same.int (orL_none he).symm
    conv => whnf
    repeat' (first | with_reducible apply True.intro | ((with_reducible apply Frz.l) <;> conv => whnf) | fail)
end Go.Fw
