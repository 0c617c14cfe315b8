/- Addresses and claims, as plain data. -/
import Derived.Test.YtpmiaggdjgfjgaaGreatSrt

namespace Go.Fw
set_option maxRecDepth 4000
open Go.Proofs
def u8 (x : Int) : SV := .v (.int .u8 x)
def u64 (x : Int) : SV := .v (.int .u64 x)
theorem u8_mk (x : Int) : SV.v (.int .u8 x) = u8 x := rfl
theorem u64_mk (x : Int) : SV.v (.int .u64 x) = u64 x := rfl
/-- An address: sixteen bytes. -/
def IP : Type := {l : List Int // l.length = 16 ∧ ∀ x ∈ l, 0 ≤ x ∧ x ≤ 255}
instance : DecidableEq IP := inferInstanceAs (DecidableEq {l : List Int // l.length = 16 ∧ ∀ x ∈ l, 0 ≤ x ∧ x ≤ 255})
instance : Inhabited IP := ⟨⟨List.replicate 16 0, by decide⟩⟩
def ipV (a : IP) : SV := .ba 16 a.1
theorem ip_ext {a b : IP} (h : a.1 = b.1) : a = b := Subtype.ext h
structure Clm where
  ip : IP
  eui : Int
  seq : Int
  since : Int
  upto : Int
  deriving DecidableEq, Inhabited
def clmV (c : Clm) : SV := .agg [ipV c.ip, .v (.int .u64 c.eui), .v (.int .i64 c.seq), .v (.int .i64 c.since), .v (.int .i64 c.upto)]
theorem clm_mk (a : IP) (e s x y : Int) : SV.agg [ipV a, .v (.int .u64 e), .v (.int .i64 s), .v (.int .i64 x), .v (.int .i64 y)] = clmV ⟨a, e, s, x, y⟩ := rfl
theorem clm_mk2 (a : IP) (e s x y : Int) : SV.agg [ipV a, .v (.int .u64 e), int s, .v (.int .i64 x), .v (.int .i64 y)] = clmV ⟨a, e, s, x, y⟩ := rfl
theorem clm_u0 (a : IP) (e s x y : Int) (b : IP) : SV.agg (setL [ipV a, .v (.int .u64 e), .v (.int .i64 s), .v (.int .i64 x), .v (.int .i64 y)] 0 (ipV b)) = clmV ⟨b, e, s, x, y⟩ := rfl
theorem clm_u1 (a : IP) (e s x y : Int) (z : Int) : SV.agg (setL [ipV a, .v (.int .u64 e), .v (.int .i64 s), .v (.int .i64 x), .v (.int .i64 y)] 1 (.v (.int .u64 z))) = clmV ⟨a, z, s, x, y⟩ := rfl
theorem clm_u2 (a : IP) (e s x y : Int) (z : Int) : SV.agg (setL [ipV a, .v (.int .u64 e), .v (.int .i64 s), .v (.int .i64 x), .v (.int .i64 y)] 2 (.v (.int .i64 z))) = clmV ⟨a, e, z, x, y⟩ := rfl
theorem clm_u3 (a : IP) (e s x y : Int) (z : Int) : SV.agg (setL [ipV a, .v (.int .u64 e), .v (.int .i64 s), .v (.int .i64 x), .v (.int .i64 y)] 3 (.v (.int .i64 z))) = clmV ⟨a, e, s, z, y⟩ := rfl
theorem clm_u4 (a : IP) (e s x y : Int) (z : Int) : SV.agg (setL [ipV a, .v (.int .u64 e), .v (.int .i64 s), .v (.int .i64 x), .v (.int .i64 y)] 4 (.v (.int .i64 z))) = clmV ⟨a, e, s, x, z⟩ := rfl
theorem Wr.sub1 {x : Int} {K : Int → Prop} (h : K (IntKind.wrap .i64 (x - 1))) : Wr .i64 (x - 1) K := ⟨h⟩
def clm0 : Clm := ⟨⟨List.replicate 16 0, by decide⟩, 0, 0, 0, 0⟩
theorem clm_ext {a b : Clm} (h1 : a.ip = b.ip) (h2 : a.eui = b.eui) (h3 : a.seq = b.seq) (h4 : a.since = b.since) (h5 : a.upto = b.upto) : a = b := by
  cases a; cases b; simp_all
theorem clmV_eq (a b : Clm) : (a.ip.1 == b.ip.1 && (a.eui == b.eui && (a.seq == b.seq && (a.since == b.since && (a.upto == b.upto && true))))) = decide (a = b) := by
  rw [Bool.eq_iff_iff]
  simp only [Bool.and_eq_true, beq_iff_eq, decide_eq_true_eq, and_true]
  exact ⟨fun ⟨h1, h2, h3, h4, h5⟩ => clm_ext (ip_ext h1) h2 h3 h4 h5, fun h => by subst h; simp⟩
end Go.Fw

/- Comparisons: bytes.Compare, cmp.Compare, cmp.Or, addresses. -/
namespace Go.Fw
set_option maxRecDepth 4000
open Go.Proofs
set_option maxHeartbeats 4000000
theorem ipRows_take (a : IP) : (bytesRows a.1).take 16 = bytesRows a.1 := List.take_of_length_le (by simp [bytesRows, a.2.1])
theorem k_bytesCompare (a b : IP) (t1 t2 : Tg) : Con Tryz.prog 46 [.fs t1 1 (bytesRows a.1), .fs t2 1 (bytesRows b.1)] [] (int (cmpB a.1 b.1)) [] := by
  refine spec_of_run ttok mixed (T0 := 19) (ts := [.tmp 4]) 8 rfl rfl rfl rfl (by simp) rfl ?_
  conv => whnf
  repeat' (first | with_reducible apply True.intro | ((first | (apply CallN.mk (con_compare Tryz.func69 (by kernel_rfl) (by kernel_rfl) (by kernel_rfl) (by kernel_rfl) a.1 b.1 t1 t2 a.2.2 b.2.2)) | (apply Same.int; focus rfl) | (with_reducible apply Frz.l)) <;> conv => whnf) | fail)
def cmpIP (a b : IP) : Int := cmpB a.1 b.1
theorem cmpB_lt : ∀ {a b : List Int} {i : Nat}, i < a.length → i < b.length → (∀ j, j < i → gt a j = gt b j) → gt a i < gt b i → cmpB a b = -1
  | x :: a, y :: b, 0, _, _, _, h => by
    have h : x < y := h
    simp [cmpB, h]
  | x :: a, y :: b, i + 1, h1, h2, h3, h4 => by
    have h0 : x = y := h3 0 (by omega)
    subst h0
    simp only [cmpB, Int.lt_irrefl, if_false]
    exact cmpB_lt (i := i) (by simpa using h1) (by simpa using h2) (fun j hj => h3 (j + 1) (by omega)) h4
theorem cmpB_gt : ∀ {a b : List Int} {i : Nat}, i < a.length → i < b.length → (∀ j, j < i → gt a j = gt b j) → gt b i < gt a i → cmpB a b = 1
  | x :: a, y :: b, 0, _, _, _, h => by
    have h : y < x := h
    have h2 : ¬ x < y := by omega
    simp [cmpB, h, h2]
  | x :: a, y :: b, i + 1, h1, h2, h3, h4 => by
    have h0 : x = y := h3 0 (by omega)
    subst h0
    simp only [cmpB, Int.lt_irrefl, if_false]
    exact cmpB_gt (i := i) (by simpa using h1) (by simpa using h2) (fun j hj => h3 (j + 1) (by omega)) h4
theorem cmpB_refl : ∀ (a : List Int), cmpB a a = 0
  | [] => rfl
  | x :: a => by simp only [cmpB, Int.lt_irrefl, if_false]; exact cmpB_refl a
theorem cmpB_range : ∀ (a b : List Int), cmpB a b = -1 ∨ cmpB a b = 0 ∨ cmpB a b = 1
  | [], [] => .inr (.inl rfl)
  | [], _ :: _ => .inl rfl
  | _ :: _, [] => .inr (.inr rfl)
  | x :: a, y :: b => by
    simp only [cmpB]
    split
    · exact .inl rfl
    · split
      · exact .inr (.inr rfl)
      · exact cmpB_range a b
theorem cmpB_zero : ∀ {a b : List Int}, cmpB a b = 0 → a = b
  | [], [], _ => rfl
  | [], _ :: _, h => by simp [cmpB] at h
  | _ :: _, [], h => by simp [cmpB] at h
  | x :: a, y :: b, h => by
    simp only [cmpB] at h
    split at h
    · omega
    · split at h
      · omega
      · rw [cmpB_zero h, show x = y by omega]
theorem cmpB_anti : ∀ (a b : List Int), cmpB a b = - cmpB b a
  | [], [] => rfl
  | [], _ :: _ => rfl
  | _ :: _, [] => rfl
  | x :: a, y :: b => by
    simp only [cmpB]
    by_cases h1 : x < y
    · have h2 : ¬ y < x := by omega
      simp [h1, h2]
    · by_cases h2 : y < x
      · simp [h1, h2]
      · simp only [h1, h2, if_false]; exact cmpB_anti a b
theorem cmpB_trans : ∀ {a b c : List Int}, cmpB a b < 0 → cmpB b c < 0 → cmpB a c < 0
  | [], [], _, h, _ => by simp [cmpB] at h
  | [], _ :: _, [], _, h => by simp [cmpB] at h
  | [], _ :: _, _ :: _, _, _ => by simp [cmpB]
  | _ :: _, [], _, h, _ => by simp [cmpB] at h
  | _ :: _, _ :: _, [], _, h => by simp [cmpB] at h
  | x :: a, y :: b, z :: c, h1, h2 => by
    simp only [cmpB] at h1 h2 ⊢
    split at h1
    · split at h2
      · rw [if_pos (by omega)]; omega
      · split at h2
        · omega
        · rw [if_pos (by omega)]; omega
    · split at h1
      · omega
      · split at h2
        · rw [if_pos (by omega)]; omega
        · split at h2
          · omega
          · rw [if_neg (by omega), if_neg (by omega)]
            exact cmpB_trans h1 h2
theorem cmpIP_range (a b : IP) : cmpIP a b = -1 ∨ cmpIP a b = 0 ∨ cmpIP a b = 1 := cmpB_range _ _
theorem cmpIP_refl (a : IP) : cmpIP a a = 0 := cmpB_refl _
theorem cmpIP_zero {a b : IP} (h : cmpIP a b = 0) : a = b := ip_ext (cmpB_zero h)
theorem cmpIP_anti (a b : IP) : cmpIP a b = - cmpIP b a := cmpB_anti _ _
theorem cmpIP_trans {a b c : IP} (h : cmpIP a b < 0) (g : cmpIP b c < 0) : cmpIP a c < 0 := cmpB_trans h g
theorem k_CompareIP (a b : IP) : Con Tryz.prog 39 [ipV a, ipV b] [] (int (cmpIP a b)) [] := by
  have la := a.2.1
  have lb := b.2.1
  refine spec_of_run ttok mixed (T0 := 8454335) (ts := [.tmp 4]) 24 rfl rfl rfl rfl (by simp) rfl ?_
  conv => whnf
  repeat' (first | ((with_reducible apply Frz.l) <;> conv => whnf) | fail)
  refine loop_keep ttok mixed (T0 := 8454335) [2, 3] (ι := {k : Nat // k ≤ 16 ∧ ∀ j, j < k → gt a.1 j = gt b.1 j})
    (fun k => [(5, int (k.1 : Int))]) (fun _ => [.cells (ipV a), .cells (ipV b)]) (fun k => 16 - k.1) ⟨0, by omega, none_lt⟩ ?_
  conv => whnf
  repeat' (first | ((first | (with_reducible apply Same.rfl) | (apply Same.int; focus rfl) | (with_reducible apply Frz.l)) <;> conv => whnf) | fail)
  rintro ⟨k, hk, he⟩
  dsimp only
  conv => whnf
  repeat' (first | ((first | ((with_reducible apply Nm.mk); focus ((try simp only [lns]); exact rfl)) | ((with_reducible apply Wr.i64); focus omega) | ((with_reducible apply Need.mk); focus first | omega | kernel_rfl) | ((with_reducible apply Bif.dec) <;> intro h <;> (try simp only [lns] at h)) | (with_reducible apply Frz.l)) <;> conv => whnf) | fail)
  · have h1 : gt a.1 k < gt b.1 k := h
    apply Same.int (cmpB_lt (by omega) (by omega) he h1).symm
    conv => whnf
    repeat' (first | with_reducible apply True.intro | ((with_reducible apply Frz.l) <;> conv => whnf) | fail)
  · have h1 : gt a.1 k > gt b.1 k := h
    apply Same.int (cmpB_gt (by omega) (by omega) he h1).symm
    conv => whnf
    repeat' (first | with_reducible apply True.intro | ((with_reducible apply Frz.l) <;> conv => whnf) | fail)
  · rename_i g1 g2
    have h1 : ¬ gt a.1 k < gt b.1 k := g2
    have h2 : ¬ gt a.1 k > gt b.1 k := h
    (refine ⟨⟨k + 1, by omega, step_lt he (by omega)⟩, ?_⟩; (try dsimp only); conv => whnf); repeat' (first | with_reducible apply True.intro | ((first | ((with_reducible apply Need.mk); focus omega) | (with_reducible apply Same.rfl) | (apply Same.int; focus rfl) | (with_reducible apply Turn.l) | (with_reducible apply Frz.l)) <;> conv => whnf) | fail)
  · have e : a = b := ip_ext (ext_gt (by omega) fun i hi => he i (by omega))
    subst e
    apply Same.int (cmpB_refl _).symm
    conv => whnf
    repeat' (first | with_reducible apply True.intro | ((with_reducible apply Frz.l) <;> conv => whnf) | fail)
/-- cmp.Compare -/
def cmpI (x y : Int) : Int := if x < y then -1 else if x > y then 1 else 0
theorem k_isNaN_int (x : Int) : Con Tryz.prog 103 [int x] [] (bool false) [] := by
  refine spec_of_run ttok mixed (T0 := 5) (ts := [.tmp 2]) 6 rfl rfl rfl rfl (by simp) rfl ?_
  conv => whnf
  repeat' (first | ((with_reducible apply Frz.l) <;> conv => whnf) | fail)
  all_goals (apply Same.bool (by simp); (conv => whnf); repeat' (first | with_reducible apply True.intro | ((with_reducible apply Frz.l) <;> conv => whnf) | fail))
theorem k_cmp_int (x y : Int) : Con Tryz.prog 90 [int x, int y] [] (int (cmpI x y)) [] := by
  refine spec_of_run ttok mixed (T0 := 604275) (ts := [.tmp 4]) 20 rfl rfl rfl rfl (by simp) rfl ?_
  conv => whnf
  repeat' (first | ((first | (apply CallN.mk (k_isNaN_int _)) | (with_reducible apply Bif.F) | ((with_reducible apply Bif.dec) <;> intro h <;> (try simp only [lns] at h)) | (with_reducible apply Frz.l)) <;> conv => whnf) | fail)
  all_goals (apply Same.int (by unfold cmpI; (repeat' split) <;> omega); (conv => whnf); repeat' (first | with_reducible apply True.intro | ((with_reducible apply Frz.l) <;> conv => whnf) | fail))
theorem k_isNaN_EUI (x : Int) : Con Tryz.prog 92 [u64 x] [] (bool false) [] := by
  refine spec_of_run ttok mixed (T0 := 5) (ts := [.tmp 2]) 6 rfl rfl rfl rfl (by simp) rfl ?_
  conv => whnf
  repeat' (first | ((with_reducible apply Frz.l) <;> conv => whnf) | fail)
  all_goals (apply Same.bool (by simp); (conv => whnf); repeat' (first | with_reducible apply True.intro | ((with_reducible apply Frz.l) <;> conv => whnf) | fail))
theorem k_cmp_EUI (x y : Int) : Con Tryz.prog 91 [u64 x, u64 y] [] (int (cmpI x y)) [] := by
  refine spec_of_run ttok mixed (T0 := 604275) (ts := [.tmp 4]) 20 rfl rfl rfl rfl (by simp) rfl ?_
  conv => whnf
  repeat' (first | ((first | (apply CallN.mk (k_isNaN_EUI _)) | (with_reducible apply Bif.F) | ((with_reducible apply Bif.dec) <;> intro h <;> (try simp only [lns] at h)) | (with_reducible apply Frz.l)) <;> conv => whnf) | fail)
  all_goals (apply Same.int (by unfold cmpI; (repeat' split) <;> omega); (conv => whnf); repeat' (first | with_reducible apply True.intro | ((with_reducible apply Frz.l) <;> conv => whnf) | fail))
/-- cmp.Or -/
def orL : List Int → Int
  | [] => 0
  | x :: l => if x ≠ 0 then x else orL l
theorem orL_at : ∀ {l : List Int} {k : Nat}, k < l.length → (∀ j, j < k → gt l j = 0) → gt l k ≠ 0 → orL l = gt l k
  | x :: l, 0, _, _, h => by
    have h : x ≠ 0 := h
    simp [orL, h, gt]
  | x :: l, k + 1, h1, h2, h3 => by
    have h0 : x = 0 := h2 0 (by omega)
    subst h0
    simp only [orL, ne_eq, not_true_eq_false, if_false]
    exact orL_at (l := l) (k := k) (by simpa using h1) (fun j hj => h2 (j + 1) (by omega)) h3
theorem orL_none : ∀ {l : List Int}, (∀ j, j < l.length → gt l j = 0) → orL l = 0
  | [], _ => rfl
  | x :: l, h => by
    have h0 : x = 0 := h 0 (by simp)
    subst h0
    simp only [orL, ne_eq, not_true_eq_false, if_false]
    exact orL_none fun j hj => h (j + 1) (by simpa using hj)
theorem k_Or (l : List Int) (t : Tg) (hl : l.length ≤ 1000) : Con Tryz.prog 89 [.fs t 1 (ints l)] [] (int (orL l)) [] := by
  refine spec_of_run ttok mixed (T0 := 17389) (ts := [.tmp 2]) 18 rfl rfl rfl rfl (by simp) rfl ?_
  conv => whnf
  repeat' (first | ((first | ((with_reducible apply Nm.mk); focus ((try simp only [lns]); exact rfl)) | (with_reducible apply Frz.l)) <;> conv => whnf) | fail)
  refine loop_keep ttok mixed (T0 := 17389) [3, 6, 7] (ι := {k : Nat // k ≤ l.length ∧ ∀ j, j < k → gt l j = 0})
    (fun k => [(8, int (k.1 : Int))]) (fun _ => []) (fun k => l.length - k.1) ⟨0, by omega, none_lt⟩ ?_
  conv => whnf
  repeat' (first | ((first | (with_reducible apply Same.rfl) | (apply Same.int; focus rfl) | (with_reducible apply Frz.l)) <;> conv => whnf) | fail)
  rintro ⟨k, hk, he⟩
  dsimp only
  conv => whnf
  repeat' (first | ((first | ((with_reducible apply Nm.mk); focus ((try simp only [lns]); exact rfl)) | ((with_reducible apply Wr.i64); focus omega) | ((with_reducible apply Need.mk); focus (simp only [lns]; omega)) | ((with_reducible apply Elem.lst); focus omega) | ((with_reducible first | apply Bif.dec | apply Bif.bne) <;> intro h <;> (try simp only [lns] at h)) | (with_reducible apply Frz.l)) <;> conv => whnf) | fail)
  · apply Same.int (orL_at (by omega) he h).symm
    conv => whnf
    repeat' (first | with_reducible apply True.intro | ((with_reducible apply Frz.l) <;> conv => whnf) | fail)
  · (refine ⟨⟨k + 1, by omega, step_lt he h⟩, ?_⟩; (try dsimp only); conv => whnf); repeat' (first | with_reducible apply True.intro | ((first | ((with_reducible apply Need.mk); focus omega) | (with_reducible apply Same.rfl) | (apply Same.int; focus rfl) | (with_reducible apply Turn.l) | (with_reducible apply Frz.l)) <;> conv => whnf) | fail)
  · have hkl : k = l.length := by omega
    subst hkl
    apply Same.int (orL_none he).symm
    conv => whnf
    repeat' (first | with_reducible apply True.intro | ((with_reducible apply Frz.l) <;> conv => whnf) | fail)
end Go.Fw

/- What the makers make from a tape: times, owners, addresses. -/
namespace Go.Fw
set_option maxRecDepth 4000
open Go.Proofs
set_option maxHeartbeats 4000000
def TapeBool (l : List Int) (r : SV) (hp' : List OB) : Prop := ∃ (b : Bool) (k' : Int), r = bool b ∧ hp' = [.cells (tape l k')] ∧ 0 ≤ k'
theorem k_tape_Bool (l : List Int) (k n : Int) (hk : 0 ≤ k) (hl : l.length ≤ 400) (hn : 0 < n ∧ n < 9223372036854775808) :
    ∃ r hp', TapeBool l r hp' ∧ Con Tryz.prog 20 [.pb 0 [], .v (.int .i64 n)] [.cells (tape l k)] r hp' := by
  refine spec_of_runR ttok mixed (T0 := 19) (ts := [.tmp 4]) 11 rfl rfl rfl rfl (by simp) rfl ?_
  conv => whnf
  repeat' (first | ((first | ((with_reducible apply Wr.i64); focus omega) | (refine CallN.ex (k_tape_Next l k n hk hl hn) ?_; rintro _ _ ⟨x, k', rfl, rfl, h1, h2, h3⟩) | (with_reducible apply Frz.l)) <;> conv => whnf) | fail)
  (refine ⟨_, _, ⟨(x == n - 1), k', rfl, rfl, h3⟩, ?_⟩; conv => whnf); repeat' (first | with_reducible apply True.intro | ((first | (with_reducible apply Same.rfl) | (apply Same.bool; focus (with_reducible rfl)) | (with_reducible apply Frz.l)) <;> conv => whnf) | fail)
/-- bytes -/
theorem byt_set {n : Nat} {l : List Int} {i : Nat} {x : Int} (h : l.length = n ∧ ∀ x ∈ l, 0 ≤ x ∧ x ≤ 255) (hx : 0 ≤ x ∧ x ≤ 255) : (l.set i x).length = n ∧ ∀ y ∈ l.set i x, 0 ≤ y ∧ y ≤ 255 :=
  ⟨by rw [List.length_set]; exact h.1, fun y hy => (List.mem_or_eq_of_mem_set hy).elim (h.2 y) fun e => e ▸ hx⟩
theorem byt_cons {n : Nat} {l : List Int} {x : Int} (h : l.length = n ∧ ∀ x ∈ l, 0 ≤ x ∧ x ≤ 255) (hx : 0 ≤ x ∧ x ≤ 255) : (x :: l).length = n + 1 ∧ ∀ y ∈ x :: l, 0 ≤ y ∧ y ≤ 255 :=
  ⟨by rw [List.length_cons, h.1], fun y hy => (List.mem_cons.1 hy).elim (fun e => e ▸ hx) (h.2 y)⟩
theorem wrap8_range (x : Int) : 0 ≤ IntKind.wrap .u8 x ∧ IntKind.wrap .u8 x ≤ 255 := by
  simp [IntKind.wrap, IntKind.bits, IntKind.signed]; omega
theorem Wr.shl {b : Nat} {K : Int → Prop} (h : K (IntKind.wrap .u8 (1 * 2 ^ b))) : Wr .u8 (1 * 2 ^ b) K := ⟨h⟩
def TapeIP (l : List Int) (r : SV) (hp' : List OB) : Prop := ∃ (ip : IP) (k' : Int), r = ipV ip ∧ hp' = [.cells (tape l k')] ∧ 0 ≤ k'
theorem k_world_IP (l : List Int) (k : Int) (hk : 0 ≤ k) (hl : l.length ≤ 400) :
    ∃ r hp', TapeIP l r hp' ∧ Con Tryz.prog 11 [.pb 0 []] [.cells (tape l k)] r hp' := by
  refine spec_of_runR ttok mixed (T0 := 65549) (ts := [.cell 2 32]) 28 rfl rfl rfl rfl (by simp) rfl ?_
  conv => whnf
  repeat' (first | ((with_reducible apply Wr.shl); conv => whnf) | ((first | ((with_reducible apply Nm.mk); focus ((try simp only [lns]); exact rfl)) | ((with_reducible first | apply Wr.u8 | apply Wr.u64); focus omega) | ((with_reducible apply Need.mk); focus first | omega | kernel_rfl) | (refine CallN.ex (k_tape_Next l _ _ (by omega) hl (by omega)) ?_; rintro _ _ ⟨x, k', rfl, rfl, h1, h2, h3⟩) | (refine CallN.ex (k_tape_Bool l _ _ (by omega) hl (by omega)) ?_; rintro _ _ ⟨b, k', rfl, rfl, h3⟩) | ((with_reducible apply Bif.mk) <;> intro h) | (with_reducible apply Frz.l)) <;> conv => whnf) | fail)
  all_goals ((apply Ex2.mk (.ba 16 _) ([.cells (tape l _)])); (focus ((conv => whnf); repeat' (first | with_reducible apply True.intro | ((first | (with_reducible apply Same.rfl) | (with_reducible apply Frz.l)) <;> conv => whnf) | fail))); exact ⟨⟨_, by (repeat' (first | decide | omega | exact wrap8_range _ | apply byt_set | apply byt_cons))⟩, _, rfl, rfl, by omega⟩)
theorem k_world_EUI (l : List Int) (k : Int) (hk : 0 ≤ k) (hl : l.length ≤ 400) :
    ∃ r hp', (∃ (x k' : Int), r = u64 x ∧ hp' = [.cells (tape l k')] ∧ 1 ≤ x ∧ x ≤ 5 ∧ 0 ≤ k') ∧ Con Tryz.prog 21 [.pb 0 []] [.cells (tape l k)] r hp' := by
  refine spec_of_runR ttok mixed (T0 := 5) (ts := [.tmp 2]) 7 rfl rfl rfl rfl (by simp) rfl ?_
  conv => whnf
  repeat' (first | ((first | ((with_reducible first | apply Wr.i64 | apply Wr.u64); focus omega) | (refine CallN.ex (k_tape_Next l _ _ (by omega) hl (by omega)) ?_; rintro _ _ ⟨x, k', rfl, rfl, h1, h2, h3⟩) | (with_reducible apply Frz.l)) <;> conv => whnf) | fail)
  (apply Ex2.mk (.v (.int .u64 _)) ([.cells (tape l _)])); (focus ((conv => whnf); repeat' (first | with_reducible apply True.intro | ((first | (with_reducible apply Same.rfl) | (with_reducible apply Frz.l)) <;> conv => whnf) | fail))); exact ⟨_, _, rfl, rfl, by omega, by omega, by omega⟩
theorem k_world_Base (l : List Int) (k : Int) (hk : 0 ≤ k) (hl : l.length ≤ 400) :
    ∃ r hp', TapeInt l 0 1099511627777 r hp' ∧ Con Tryz.prog 7 [.pb 0 []] [.cells (tape l k)] r hp' := by
  refine spec_of_runR ttok mixed (T0 := 565) (ts := [.tmp 2]) 16 rfl rfl rfl rfl (by simp) rfl ?_
  conv => whnf
  repeat' (first | ((first | ((with_reducible apply Wr.i64); focus omega) | (refine CallN.ex (k_tape_Next l _ _ (by omega) hl (by omega)) ?_; rintro _ _ ⟨x, k', rfl, rfl, h1, h2, h3⟩) | ((with_reducible apply Bif.beq) <;> intro h <;> (try simp only [lns] at h)) | (with_reducible apply Frz.l)) <;> conv => whnf) | fail)
  all_goals ((apply Ex2.mk (.v (.int .i64 _)) ([.cells (tape l _)])); (focus ((conv => whnf); repeat' (first | with_reducible apply True.intro | ((first | (with_reducible apply Same.rfl) | (with_reducible apply Frz.l)) <;> conv => whnf) | fail))); exact ⟨_, _, rfl, rfl, by omega, by omega, by omega⟩)
theorem k_world_Time (l : List Int) (k base : Int) (hk : 0 ≤ k) (hl : l.length ≤ 400) (hb : 0 ≤ base ∧ base ≤ 1099511627776) :
    ∃ r hp', TapeInt l 0 1099511627777 r hp' ∧ Con Tryz.prog 14 [.pb 0 [], int base] [.cells (tape l k)] r hp' := by
  refine spec_of_runR ttok mixed (T0 := 19) (ts := [.tmp 4]) 12 rfl rfl rfl rfl (by simp) rfl ?_
  conv => whnf
  repeat' (first | ((first | ((with_reducible apply Wr.i64); focus omega) | (refine CallN.ex (k_tape_Next l _ _ (by omega) hl (by omega)) ?_; rintro _ _ ⟨x, k', rfl, rfl, h1, h2, h3⟩) | (with_reducible apply Frz.l)) <;> conv => whnf) | fail)
  all_goals ((apply Ex2.mk (.v (.int .i64 _)) ([.cells (tape l _)])); (focus ((conv => whnf); repeat' (first | with_reducible apply True.intro | ((first | (with_reducible apply Same.rfl) | (with_reducible apply Frz.l)) <;> conv => whnf) | fail))); exact ⟨_, _, rfl, rfl, by omega, by omega, by omega⟩)
end Go.Fw
