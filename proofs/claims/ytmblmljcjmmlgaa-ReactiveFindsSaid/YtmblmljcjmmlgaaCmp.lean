/- Comparisons: bytes.Compare, cmp.Compare, cmp.Or, addresses. -/
import Derived.Test.YtmblmljcjmmlgaaSqd
namespace Go.Fw
set_option maxRecDepth 4000
open Go.Proofs
set_option maxHeartbeats 4000000
theorem ipRows_take (a : IP) : (bytesRows a.1).take 16 = bytesRows a.1 := List.take_of_length_le (by simp [bytesRows, a.2.1])
def cmpIP (a b : IP) : Int := cmpB a.1 b.1
theorem cmpB_lt : ∀ {a b : List Int} {i : Nat}, i < a.length → i < b.length → (∀ j, j < i → gt a j = gt b j) → gt a i < gt b i → cmpB a b = -1
  | x :: a, y :: b, 0, _, _, _, h => by
    have h : x < y := h
    simp [cmpB, h]
  | x :: a, y :: b, i + 1, h1, h2, h3, h4 => by
    have h0 : x = y := h3 0 (by omega)
    subst h0
    simp only [cmpB, Int.lt_irrefl, if_false]
    exact cmpB_lt (i := i) (by simpa using h1) (by simpa using h2) (fun j hj => h3 (j + 1) (by omega)) h4
theorem cmpB_gt : ∀ {a b : List Int} {i : Nat}, i < a.length → i < b.length → (∀ j, j < i → gt a j = gt b j) → gt b i < gt a i → cmpB a b = 1
  | x :: a, y :: b, 0, _, _, _, h => by
    have h : y < x := h
    have h2 : ¬ x < y := by omega
    simp [cmpB, h, h2]
  | x :: a, y :: b, i + 1, h1, h2, h3, h4 => by
    have h0 : x = y := h3 0 (by omega)
    subst h0
    simp only [cmpB, Int.lt_irrefl, if_false]
    exact cmpB_gt (i := i) (by simpa using h1) (by simpa using h2) (fun j hj => h3 (j + 1) (by omega)) h4
theorem cmpB_refl : ∀ (a : List Int), cmpB a a = 0
  | [] => rfl
  | x :: a => by simp only [cmpB, Int.lt_irrefl, if_false]; exact cmpB_refl a
theorem cmpB_range : ∀ (a b : List Int), cmpB a b = -1 ∨ cmpB a b = 0 ∨ cmpB a b = 1
  | [], [] => .inr (.inl rfl)
  | [], _ :: _ => .inl rfl
  | _ :: _, [] => .inr (.inr rfl)
  | x :: a, y :: b => by
    simp only [cmpB]
    split
    · exact .inl rfl
    · split
      · exact .inr (.inr rfl)
      · exact cmpB_range a b
theorem cmpB_zero : ∀ {a b : List Int}, cmpB a b = 0 → a = b
  | [], [], _ => rfl
  | [], _ :: _, h => by simp [cmpB] at h
  | _ :: _, [], h => by simp [cmpB] at h
  | x :: a, y :: b, h => by
    simp only [cmpB] at h
    split at h
    · omega
    · split at h
      · omega
      · rw [cmpB_zero h, show x = y by omega]
theorem cmpB_anti : ∀ (a b : List Int), cmpB a b = - cmpB b a
  | [], [] => rfl
  | [], _ :: _ => rfl
  | _ :: _, [] => rfl
  | x :: a, y :: b => by
    simp only [cmpB]
    by_cases h1 : x < y
    · have h2 : ¬ y < x := by omega
      simp [h1, h2]
    · by_cases h2 : y < x
      · simp [h1, h2]
      · simp only [h1, h2, if_false]; exact cmpB_anti a b
theorem cmpB_trans : ∀ {a b c : List Int}, cmpB a b < 0 → cmpB b c < 0 → cmpB a c < 0
  | [], [], _, h, _ => by simp [cmpB] at h
  | [], _ :: _, [], _, h => by simp [cmpB] at h
  | [], _ :: _, _ :: _, _, _ => by simp [cmpB]
  | _ :: _, [], _, h, _ => by simp [cmpB] at h
  | _ :: _, _ :: _, [], _, h => by simp [cmpB] at h
  | x :: a, y :: b, z :: c, h1, h2 => by
    simp only [cmpB] at h1 h2 ⊢
    split at h1
    · split at h2
      · rw [if_pos (by omega)]; omega
      · split at h2
        · omega
        · rw [if_pos (by omega)]; omega
    · split at h1
      · omega
      · split at h2
        · rw [if_pos (by omega)]; omega
        · split at h2
          · omega
          · rw [if_neg (by omega), if_neg (by omega)]
            exact cmpB_trans h1 h2
theorem cmpIP_range (a b : IP) : cmpIP a b = -1 ∨ cmpIP a b = 0 ∨ cmpIP a b = 1 := cmpB_range _ _
theorem cmpIP_refl (a : IP) : cmpIP a a = 0 := cmpB_refl _
theorem cmpIP_zero {a b : IP} (h : cmpIP a b = 0) : a = b := ip_ext (cmpB_zero h)
theorem cmpIP_anti (a b : IP) : cmpIP a b = - cmpIP b a := cmpB_anti _ _
theorem cmpIP_trans {a b c : IP} (h : cmpIP a b < 0) (g : cmpIP b c < 0) : cmpIP a c < 0 := cmpB_trans h g
/-- cmp.Compare -/
def cmpI (x y : Int) : Int := if x < y then -1 else if x > y then 1 else 0
/-- cmp.Or -/
def orL : List Int → Int
  | [] => 0
  | x :: l => if x ≠ 0 then x else orL l
theorem orL_at : ∀ {l : List Int} {k : Nat}, k < l.length → (∀ j, j < k → gt l j = 0) → gt l k ≠ 0 → orL l = gt l k
  | x :: l, 0, _, _, h => by
    have h : x ≠ 0 := h
    simp [orL, h, gt]
  | x :: l, k + 1, h1, h2, h3 => by
    have h0 : x = 0 := h2 0 (by omega)
    subst h0
    simp only [orL, ne_eq, not_true_eq_false, if_false]
    exact orL_at (l := l) (k := k) (by simpa using h1) (fun j hj => h2 (j + 1) (by omega)) h3
theorem orL_none : ∀ {l : List Int}, (∀ j, j < l.length → gt l j = 0) → orL l = 0
  | [], _ => rfl
  | x :: l, h => by
    have h0 : x = 0 := h 0 (by simp)
    subst h0
    simp only [orL, ne_eq, not_true_eq_false, if_false]
    exact orL_none fun j hj => h (j + 1) (by simpa using hj)
end Go.Fw
