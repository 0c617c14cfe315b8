/- Networks that meet, as plain data. -/
import Derived.Test.YtpmiaggdjgfjgaaGreatPdqE

namespace Go.Fw
set_option maxRecDepth 4000
open Go.Proofs
set_option maxHeartbeats 4000000
structure Net where
  ep : Int
  rt : Int
  mem : List Int
  cl : List Clm
  deriving DecidableEq, Inhabited
/-- It lies in shared slices; or in owned ones. -/
abbrev idV (e r : Int) : SV := .agg [.v (.int .i64 e), .v (.int .u64 r)]
abbrev netF (n : Net) : SV := .agg [idV n.ep n.rt, .fs .no 1 (lst u64 n.mem), .fs .no 20 (lst clmV n.cl)]
abbrev netO (n : Net) (a b : Nat) : SV := .agg [idV n.ep n.rt, .ov 1 a 0 n.mem.length, .ov 20 b 0 n.cl.length]
abbrev netH (n : Net) : List OB := [.arr none 1 (lst u64 n.mem), .arr none 20 (lst clmV n.cl)]
def net0 : Net := ⟨0, 0, [], []⟩
/-! ### Ascending lists of numbers -/
/-- A number is put into an ascending list. -/
def insU (x : Int) : List Int → List Int
  | [] => [x]
  | y :: r => if x < y then x :: y :: r else if x = y then y :: r else y :: insU x r
def srtU (l : List Int) : List Int := l.foldr insU []
theorem insU_mem {x z : Int} : ∀ {l : List Int}, z ∈ insU x l ↔ z = x ∨ z ∈ l
  | [] => by simp [insU]
  | y :: r => by
    unfold insU
    split
    · simp
    · split
      · rename_i h; subst h; simp
      · simp only [List.mem_cons, insU_mem (l := r)]
        exact ⟨fun h => by rcases h with h | h | h <;> simp [h], fun h => by rcases h with h | h | h <;> simp [h]⟩
theorem insU_pw {x : Int} : ∀ {l : List Int}, l.Pairwise (· < ·) → (insU x l).Pairwise (· < ·)
  | [], _ => by simp [insU]
  | y :: r, h => by
    obtain ⟨h1, h2⟩ := List.pairwise_cons.1 h
    unfold insU
    split
    · rename_i hx
      refine List.pairwise_cons.2 ⟨fun z hz => ?_, h⟩
      rcases List.mem_cons.1 hz with rfl | hz
      · exact hx
      · have := h1 z hz; omega
    · split
      · exact h
      · refine List.pairwise_cons.2 ⟨fun z hz => ?_, insU_pw h2⟩
        rcases insU_mem.1 hz with rfl | hz
        · omega
        · exact h1 z hz
theorem srtU_mem {z : Int} : ∀ {l : List Int}, z ∈ srtU l ↔ z ∈ l
  | [] => by simp [srtU]
  | y :: r => by
    show z ∈ insU y (srtU r) ↔ _
    rw [insU_mem, srtU_mem (l := r), List.mem_cons]
theorem srtU_pw : ∀ (l : List Int), (srtU l).Pairwise (· < ·)
  | [] => .nil
  | y :: r => insU_pw (srtU_pw r)
theorem srtU_eq {l m : List Int} (h : m.Pairwise (· < ·)) (g : ∀ z, z ∈ m ↔ z ∈ l) : m = srtU l :=
  pw_unique (R := (· < ·)) (fun x y h1 h2 => by omega) h (srtU_pw l) fun z => (g z).trans srtU_mem.symm
theorem srtU_self {l : List Int} (h : l.Pairwise (· < ·)) : srtU l = l := (srtU_eq h fun _ => Iff.rfl).symm
theorem srtU_congr {l m : List Int} (g : ∀ z, z ∈ m ↔ z ∈ l) : srtU m = srtU l := srtU_eq (srtU_pw m) fun z => srtU_mem.trans (g z)
/-- Two lists of members together. -/
def uniU (a b : List Int) : List Int := srtU (a ++ b)
theorem insU_len {x : Int} : ∀ {l : List Int}, (insU x l).length ≤ l.length + 1
  | [] => by simp [insU]
  | y :: r => by
    unfold insU
    split
    · simp
    · split
      · simp
      · have := insU_len (x := x) (l := r)
        simp only [List.length_cons]; omega
theorem srtU_len : ∀ (l : List Int), (srtU l).length ≤ l.length
  | [] => by simp [srtU]
  | y :: r => by
    show (insU y (srtU r)).length ≤ _
    have h1 := insU_len (x := y) (l := srtU r)
    have h2 := srtU_len r
    simp only [List.length_cons]; omega
/-! ### What is computed -/
def memOK (l : List Int) : Bool := decide (1 ≤ l.length ∧ l.length ≤ 12 ∧ (∀ x ∈ l, 0 < x) ∧ l.Pairwise (· < ·))
def validN (n : Net) : Bool := decide (0 ≤ n.ep ∧ n.ep ≤ 1073741824) && (memOK n.mem && (decide (n.rt ∈ n.mem) && validR n.cl))
def betI (a b : Net) : Bool := decide (a.ep > b.ep) || (decide (a.ep = b.ep) && decide (a.rt < b.rt))
theorem validN_iff {n : Net} : validN n = true ↔ (0 ≤ n.ep ∧ n.ep ≤ 1073741824) ∧ (1 ≤ n.mem.length ∧ n.mem.length ≤ 12 ∧ (∀ x ∈ n.mem, 0 < x) ∧ n.mem.Pairwise (· < ·)) ∧ n.rt ∈ n.mem ∧ validR n.cl = true := by
  simp only [validN, memOK, Bool.and_eq_true, decide_eq_true_eq]
abbrev isTm (t : Int) : Prop := 0 ≤ t ∧ t ≤ 1099511627776
/-- partition.Found -/
def foundM (now ep rt : Int) : Net × Int := if rt = 0 then (net0, 1) else if isTm now ∧ 0 ≤ ep ∧ ep ≤ 1073741824 then (⟨ep, rt, [rt], []⟩, 0) else (net0, 2)
/-- partition.Join -/
noncomputable def joinM (a b : Net) (now : Int) : Net × List Clm × Int :=
  if validN a = true ∧ validN b = true then
    (if isTm now then
      (if (uniU a.mem b.mem).length > 12 ∨ (mergeM a.cl b.cl now).2.2 ≠ 0 then (net0, [], 10)
      else (if betI b a = true then ⟨b.ep, b.rt, uniU a.mem b.mem, (mergeM a.cl b.cl now).1⟩ else ⟨a.ep, a.rt, uniU a.mem b.mem, (mergeM a.cl b.cl now).1⟩, (mergeM a.cl b.cl now).2.1, 0))
    else (net0, [], 2))
  else (net0, [], 1)
/-- partition.Leave -/
def hereM (n : Net) (p : List Int) : List Int := n.mem.filter fun x => decide (x ∈ p)
def leaveM (n : Net) (p : List Int) : Net × Int :=
  if validN n = true then
    (if hereM n p = [] then (net0, 9)
    else if n.rt ∈ hereM n p then (⟨n.ep, n.rt, hereM n p, n.cl⟩, 0)
    else if n.ep + 1 > 1073741824 then (net0, 2)
    else (⟨n.ep + 1, gt (hereM n p) 0, hereM n p, n.cl⟩, 0))
  else (net0, 1)
end Go.Fw

/- Networks: times, identities, Found. -/
namespace Go.Fw
open Go.Proofs
set_option maxHeartbeats 4000000
set_option maxRecDepth 4000
theorem k_pisTime (t : Int) : Con Tryz.prog 31 [int t] [] (bool (decide (isTm t))) [] := by
  refine spec_of_run ttok mixed (T0 := 5) (ts := [.tmp 2]) 9 rfl rfl rfl rfl (by simp) rfl ?_
  conv => whnf
  repeat' (first | ((first | (with_reducible first | apply Bif.T | apply Bif.F) | ((with_reducible apply Bif.dec) <;> intro h <;> (try simp only [lns] at h)) | (with_reducible apply Frz.l)) <;> conv => whnf) | fail)
  all_goals (apply Same.bool (by rw [Bool.eq_iff_iff]; simp only [decide_eq_true_eq, Bool.false_eq_true, false_iff, true_iff, Bool.and_eq_true, Bool.or_eq_true, Bool.not_eq_true', decide_eq_false_iff_not, ne_eq]; omega); (conv => whnf); repeat' (first | with_reducible apply True.intro | ((with_reducible apply Frz.l) <;> conv => whnf) | fail))
theorem k_validEpoch (t : Int) : Con Tryz.prog 32 [int t] [] (bool (decide (0 ≤ t ∧ t ≤ 1073741824))) [] := by
  refine spec_of_run ttok mixed (T0 := 5) (ts := [.tmp 2]) 9 rfl rfl rfl rfl (by simp) rfl ?_
  conv => whnf
  repeat' (first | ((first | (with_reducible first | apply Bif.T | apply Bif.F) | ((with_reducible apply Bif.dec) <;> intro h <;> (try simp only [lns] at h)) | (with_reducible apply Frz.l)) <;> conv => whnf) | fail)
  all_goals (apply Same.bool (by rw [Bool.eq_iff_iff]; simp only [decide_eq_true_eq, Bool.false_eq_true, false_iff, true_iff, Bool.and_eq_true, Bool.or_eq_true, Bool.not_eq_true', decide_eq_false_iff_not, ne_eq]; omega); (conv => whnf); repeat' (first | with_reducible apply True.intro | ((with_reducible apply Frz.l) <;> conv => whnf) | fail))
theorem k_xBetter (a b : Net) : Con Tryz.prog 36 [idV a.ep a.rt, idV b.ep b.rt] [] (bool (betI a b)) [] := by
  refine spec_of_run ttok mixed (T0 := 31) (ts := [.tmp 4]) 24 rfl rfl rfl rfl (by simp) rfl ?_
  conv => whnf
  repeat' (first | ((first | (with_reducible first | apply Bif.T | apply Bif.F) | ((with_reducible first | apply Bif.dec | apply Bif.beq) <;> intro h <;> (try simp only [lns] at h)) | (with_reducible apply Frz.l)) <;> conv => whnf) | fail)
  all_goals (apply Same.bool (by simp_all [betI] <;> omega); (conv => whnf); repeat' (first | with_reducible apply True.intro | ((with_reducible apply Frz.l) <;> conv => whnf) | fail))
theorem k_xFound (now ep rt : Int) : Con Tryz.prog 16 [int now, int ep, .v (.int .u64 rt)] [] (.tup [netO (foundM now ep rt).1 0 1, int (foundM now ep rt).2]) (netH (foundM now ep rt).1) := by
  by_cases h1 : rt = 0
  · rw [foundM, if_pos h1]
    refine spec_of_run ttok mixed (T0 := 262855) (ts := [.cell 6 29, .tmp 7]) 26 rfl rfl rfl rfl (by simp) rfl ?_
    conv => whnf
    repeat' (first | with_reducible apply True.intro | ((first | ((with_reducible apply Bif.beq) <;> intro h <;> (try simp only [lns] at h) <;> (try (exfalso; omega))) | (with_reducible apply Same.rfl) | (apply Same.int; focus rfl) | (apply Same.rfl) | (with_reducible apply Frz.l)) <;> conv => whnf) | fail)
  · by_cases h2 : isTm now ∧ 0 ≤ ep ∧ ep ≤ 1073741824
    · rw [foundM, if_neg h1, if_pos h2]
      refine spec_of_run ttok mixed (T0 := 262855) (ts := [.cell 6 29, .tmp 7]) 26 rfl rfl rfl rfl (by simp) rfl ?_
      conv => whnf
      repeat' (first | with_reducible apply True.intro | ((first | (apply CallN.mk (k_pisTime _)) | (apply CallN.mk (k_validEpoch _)) | (with_reducible apply Bif.F) | ((with_reducible first | apply Bif.dec | apply Bif.beq) <;> intro h <;> (try simp only [lns] at h) <;> (try (exfalso; omega))) | (with_reducible apply Bif.not) | (with_reducible apply Same.rfl) | (apply Same.int; focus rfl) | (apply Same.rfl) | (with_reducible apply Cut.l) | (with_reducible apply Frz.l)) <;> conv => whnf) | fail)
    · rw [foundM, if_neg h1, if_neg h2]
      refine spec_of_run ttok mixed (T0 := 262855) (ts := [.cell 6 29, .tmp 7]) 26 rfl rfl rfl rfl (by simp) rfl ?_
      conv => whnf
      repeat' (first | with_reducible apply True.intro | ((first | (apply CallN.mk (k_pisTime _)) | (apply CallN.mk (k_validEpoch _)) | (with_reducible first | apply Bif.T | apply Bif.F) | ((with_reducible first | apply Bif.dec | apply Bif.beq) <;> intro h <;> (try simp only [lns] at h) <;> (try (exfalso; omega))) | (with_reducible apply Bif.not) | (with_reducible apply Same.rfl) | (apply Same.int; focus rfl) | (apply Same.rfl) | (with_reducible apply Frz.l)) <;> conv => whnf) | fail)
end Go.Fw

/- Networks: lists of members; Valid on both sides. -/
namespace Go.Fw
open Go.Proofs
set_option maxHeartbeats 8000000
set_option maxRecDepth 4000
theorem not_mem_gt {l : List Int} {x : Int} (h : ∀ k, k < l.length → gt l k ≠ x) : x ∉ l := fun hx => by
  obtain ⟨i, hi, e⟩ := mem_gt hx
  exact h i hi e
theorem k_Has (l : List Int) (x : Int) (t : Tg) (hl : l.length ≤ 9223372036854775807) : Con Tryz.prog 73 [.fs t 1 (lst u64 l), .v (.int .u64 x)] [] (bool (decide (x ∈ l))) [] := by
  refine spec_of_run ttok mixed (T0 := 34771) (ts := [.tmp 4]) 17 rfl rfl rfl rfl (by simp) rfl ?_
  conv => whnf
  repeat' (first | ((first | ((with_reducible apply Nm.mk); focus ((try simp only [lns]); exact rfl)) | (with_reducible apply Frz.l)) <;> conv => whnf) | fail)
  refine loop_keep ttok mixed (T0 := 34771) [1, 7, 8] (ι := {j : Nat // j ≤ l.length ∧ ∀ k, k < j → gt l k ≠ x})
    (fun j => [(9, int ((j.1 : Nat) : Int))]) (fun _ => []) (fun j => l.length - j.1) ⟨0, by omega, fun k h => by omega⟩ ?_
  conv => whnf
  repeat' (first | ((first | (with_reducible apply Same.rfl) | (apply Same.int; focus rfl) | (with_reducible apply Frz.l)) <;> conv => whnf) | fail)
  rintro ⟨j, hj, hn⟩
  dsimp only
  conv => whnf
  repeat' (first | ((first | ((with_reducible apply Nm.mk); focus ((try simp only [lns]); exact rfl)) | ((with_reducible apply Wr.i64); focus omega) | ((with_reducible apply Need.mk); focus (simp only [lns]; omega)) | ((with_reducible apply Elem.lst); focus omega) | ((with_reducible first | apply Bif.dec | apply Bif.beq) <;> intro h <;> (try simp only [lns] at h)) | (with_reducible apply Frz.l)) <;> conv => whnf) | fail)
  · apply Same.bool (by rw [decide_eq_true (by rw [← h]; exact gt_mem (by omega))])
    conv => whnf
    repeat' (first | with_reducible apply True.intro | ((with_reducible apply Frz.l) <;> conv => whnf) | fail)
  · (refine ⟨⟨j + 1, by omega, step_lt hn h⟩, ?_⟩; (try dsimp only); conv => whnf); repeat' (first | with_reducible apply True.intro | ((first | ((with_reducible apply Need.mk); focus omega) | (with_reducible apply Same.rfl) | (apply Same.int; focus rfl) | (with_reducible apply Turn.l) | (with_reducible apply Frz.l)) <;> conv => whnf) | fail)
  · have he : j = l.length := by omega
    apply Same.bool (by rw [decide_eq_false (not_mem_gt (by rw [← he]; exact hn))])
    conv => whnf
    repeat' (first | with_reducible apply True.intro | ((with_reducible apply Frz.l) <;> conv => whnf) | fail)
theorem k_Index (l : List Int) (x : Int) (t : Tg) (hl : l.length ≤ 9223372036854775807) : ∃ r hp', (∃ v : Int, r = int v ∧ hp' = [] ∧ ((v = -1 ∧ x ∉ l) ∨ (∃ j : Nat, v = (j : Int) ∧ j < l.length ∧ gt l j = x))) ∧ Con Tryz.prog 65 [.fs t 1 (lst u64 l), .v (.int .u64 x)] [] r hp' := by
  refine spec_of_runR ttok mixed (T0 := 66483) (ts := [.tmp 4]) 19 rfl rfl rfl rfl (by simp) rfl ?_
  conv => whnf
  repeat' (first | ((first | ((with_reducible apply Nm.mk); focus ((try simp only [lns]); exact rfl)) | (with_reducible apply Frz.l)) <;> conv => whnf) | fail)
  refine loop_keep ttok mixed (T0 := 66483) [0, 1, 7] (ι := {j : Nat // j ≤ l.length ∧ ∀ k, k < j → gt l k ≠ x})
    (fun j => [(8, int ((j.1 : Nat) : Int))]) (fun _ => []) (fun j => l.length - j.1) ⟨0, by omega, fun k h => by omega⟩ ?_
  conv => whnf
  repeat' (first | ((first | (with_reducible apply Same.rfl) | (apply Same.int; focus rfl) | (with_reducible apply Frz.l)) <;> conv => whnf) | fail)
  rintro ⟨j, hj, hn⟩
  dsimp only
  conv => whnf
  repeat' (first | ((first | ((with_reducible apply Nm.mk); focus ((try simp only [lns]); exact rfl)) | ((with_reducible apply Wr.i64); focus omega) | ((with_reducible apply Need.mk); focus (simp only [lns]; omega)) | ((with_reducible apply Elem.lst); focus omega) | ((with_reducible first | apply Bif.dec | apply Bif.beq) <;> intro h <;> (try simp only [lns] at h)) | (with_reducible apply Frz.l)) <;> conv => whnf) | fail)
  · (refine ⟨_, _, ⟨(j : Int), rfl, rfl, .inr ⟨j, rfl, by omega, h.symm⟩⟩, ?_⟩; conv => whnf); repeat' (first | with_reducible apply True.intro | ((first | (with_reducible apply Same.rfl) | (with_reducible apply Frz.l)) <;> conv => whnf) | fail)
  · (refine ⟨⟨j + 1, by omega, step_lt hn (fun e => h e.symm)⟩, ?_⟩; (try dsimp only); conv => whnf); repeat' (first | with_reducible apply True.intro | ((first | ((with_reducible apply Need.mk); focus omega) | (with_reducible apply Same.rfl) | (apply Same.int; focus rfl) | (with_reducible apply Turn.l) | (with_reducible apply Frz.l)) <;> conv => whnf) | fail)
  · have he : j = l.length := by omega
    (refine ⟨_, _, ⟨-1, rfl, rfl, .inl ⟨rfl, not_mem_gt (by rw [← he]; exact hn)⟩⟩, ?_⟩; conv => whnf); repeat' (first | with_reducible apply True.intro | ((first | (apply Same.int; focus rfl) | (with_reducible apply Frz.l)) <;> conv => whnf) | fail)
theorem k_Contains (l : List Int) (x : Int) (t : Tg) (hl : l.length ≤ 9223372036854775807) : Con Tryz.prog 38 [.fs t 1 (lst u64 l), .v (.int .u64 x)] [] (bool (decide (x ∈ l))) [] := by
  refine spec_of_run ttok mixed (T0 := 19) (ts := [.tmp 4]) 9 rfl rfl rfl rfl (by simp) rfl ?_
  conv => whnf
  repeat' (first | ((first | (refine CallN.ex (k_Index l x t hl) ?_; rintro _ _ ⟨v, rfl, rfl, hv⟩) | (with_reducible apply Frz.l)) <;> conv => whnf) | fail)
  all_goals
    apply Same.bool (by
      rcases hv with ⟨e, hx⟩ | ⟨j, e, hj, hg⟩
      · rw [decide_eq_false hx, decide_eq_false (show ¬ v ≥ 0 by omega)]
      · rw [decide_eq_true (show x ∈ l by rw [← hg]; exact gt_mem hj), decide_eq_true (show v ≥ 0 by omega)])
    conv => whnf
    repeat' (first | with_reducible apply True.intro | ((with_reducible apply Frz.l) <;> conv => whnf) | fail)
theorem asc_pw {l : List Int} (h : ∀ k, k < l.length → 0 < k → gt l (k - 1) < gt l k) : l.Pairwise (· < ·) := by
  rw [List.pairwise_iff_getElem]
  intro i j hi hj hij
  have key : ∀ d, i + 1 + d < l.length → gt l i < gt l (i + 1 + d) := by
    intro d
    induction d with
    | zero => intro hd; exact h (i + 1) hd (by omega)
    | succ d ih =>
      intro hd
      have h1 := ih (by omega)
      have h2 := h (i + 1 + (d + 1)) hd (by omega)
      rw [show i + 1 + (d + 1) - 1 = i + 1 + d by omega] at h2
      omega
  have := key (j - (i + 1)) (by omega)
  rwa [show i + 1 + (j - (i + 1)) = j by omega, gt_eq hi, gt_eq hj] at this
theorem pw_asc {l : List Int} (h : l.Pairwise (· < ·)) {i j : Nat} (hij : i < j) (hj : j < l.length) : gt l i < gt l j := by
  rw [gt_eq (by omega : i < l.length), gt_eq hj]
  exact List.pairwise_iff_getElem.1 h i j (by omega) hj hij
theorem mem_of {l : List Int} {j : Nat} (h1 : 1 ≤ l.length ∧ l.length ≤ 12) (hj : l.length ≤ j) (h : ∀ k, k < j → 0 < gt l k ∧ (0 < k → gt l (k - 1) < gt l k)) : memOK l = true := by
  rw [memOK, decide_eq_true_eq]
  exact ⟨h1.1, h1.2, fun x hx => by
    obtain ⟨i, hi, rfl⟩ := mem_gt hx
    exact (h i (by omega)).1, asc_pw fun k hk h0 => (h k (by omega)).2 h0⟩
theorem mem_ff {l : List Int} {j : Nat} (hj : j < l.length) (h : ¬ (0 < gt l j ∧ (0 < j → gt l (j - 1) < gt l j))) : memOK l = false := by
  rw [memOK, decide_eq_false_iff_not]
  rintro ⟨h1, h2, h3, h4⟩
  exact h ⟨h3 _ (gt_mem hj), fun h0 => pw_asc h4 (by omega) hj⟩
theorem mem_ff2 {l : List Int} (h : ¬ (1 ≤ l.length ∧ l.length ≤ 12)) : memOK l = false := by
  rw [memOK, decide_eq_false_iff_not]
  rintro ⟨h1, h2, _⟩
  exact h ⟨h1, h2⟩
/-- A network that comes in. -/
structure NetR (n : Net) : Prop where
  p : ∀ x ∈ n.mem, 0 ≤ x
  lm : n.mem.length ≤ 9223372036854775807
  lc : n.cl.length ≤ 1000000
theorem vN_mem {n : Net} (h : memOK n.mem = false) : validN n = false := by simp [validN, h]
theorem vN_rt {n : Net} (h : n.rt ∉ n.mem) : validN n = false := by simp [validN, h]
theorem vN_all {n : Net} (he : 0 ≤ n.ep ∧ n.ep ≤ 1073741824) (hm : memOK n.mem = true) (hr : n.rt ∈ n.mem) : validN n = validR n.cl := by
  rw [validN, decide_eq_true he, hm, decide_eq_true hr]; rfl
theorem k_nValid (n : Net) (hn : NetR n) : Con Tryz.prog 28 [netF n] [] (bool (validN n)) [] := by
  have hlm := hn.lm
  have cE := k_validEpoch n.ep
  have cV := k_Valid n.cl .no hn.lc
  have cC := k_Contains n.mem n.rt .no hn.lm
  by_cases he : 0 ≤ n.ep ∧ n.ep ≤ 1073741824
  case neg =>
    rw [decide_eq_false he] at cE
    have hv : validN n = false := by rw [validN, decide_eq_false he]; rfl
    rw [hv]
    refine spec_of_run ttok mixed (T0 := 4550819887) (ts := [.tmp 2]) 46 rfl rfl rfl rfl (by simp) rfl ?_
    conv => whnf
    repeat' (first | with_reducible apply True.intro | ((first | (apply CallN.mk (cE)) | (with_reducible first | apply Bif.T | apply Bif.F) | (with_reducible apply Bif.not) | (apply Same.bool; focus (with_reducible rfl)) | (with_reducible apply Frz.l)) <;> conv => whnf) | fail)
  rw [decide_eq_true he] at cE
  by_cases hL : 1 ≤ n.mem.length ∧ n.mem.length ≤ 12
  case neg =>
    have hv : validN n = false := by rw [validN, mem_ff2 hL]; simp
    rw [hv]
    refine spec_of_run ttok mixed (T0 := 4550819887) (ts := [.tmp 2]) 46 rfl rfl rfl rfl (by simp) rfl ?_
    conv => whnf
    repeat' (first | with_reducible apply True.intro | ((first | ((with_reducible apply Nm.mk); focus ((try simp only [lns]); exact rfl)) | (apply CallN.mk (cE)) | (with_reducible first | apply Bif.T | apply Bif.F) | ((with_reducible apply Bif.dec) <;> intro h <;> (try simp only [lns] at h) <;> (try (exfalso; omega))) | (with_reducible apply Bif.not) | (apply Same.bool; focus (with_reducible rfl)) | (with_reducible apply Frz.l)) <;> conv => whnf) | fail)
  refine spec_of_run ttok mixed (T0 := 4550819887) (ts := [.tmp 2]) 46 rfl rfl rfl rfl (by simp) rfl ?_
  conv => whnf
  repeat' (first | ((first | ((with_reducible apply Nm.mk); focus ((try simp only [lns]); exact rfl)) | (apply CallN.mk (cE)) | (with_reducible first | apply Bif.T | apply Bif.F) | ((with_reducible apply Bif.dec) <;> intro h <;> (try simp only [lns] at h) <;> (try (exfalso; omega))) | (with_reducible apply Bif.not) | (with_reducible apply Frz.l)) <;> conv => whnf) | fail)
  refine loop_keep ttok mixed (T0 := 4550819887) [24, 25] (ι := {j : Nat // j ≤ n.mem.length ∧ ∀ k, k < j → 0 < gt n.mem k ∧ (0 < k → gt n.mem (k - 1) < gt n.mem k)})
    (fun j => [(26, int ((j.1 : Nat) : Int)), (1, .pb 0 []), (3, .v (.int .u64 (if j.1 = 0 then 0 else gt n.mem (j.1 - 1))))]) (fun _ => [.cells (netF n)]) (fun j => n.mem.length - j.1) ⟨0, by omega, none_lt⟩ ?_
  conv => whnf
  repeat' (first | ((first | (with_reducible apply Same.rfl) | (apply Same.int; focus rfl) | (with_reducible apply Frz.l)) <;> conv => whnf) | fail)
  rintro ⟨j, hj, hk⟩
  dsimp only
  have h0 : j < n.mem.length → 0 ≤ gt n.mem j := fun h => hn.p _ (gt_mem h)
  have hlast : 0 < j → 0 < gt n.mem (j - 1) := fun h => (hk (j - 1) (by omega)).1
  conv => whnf
  repeat' (first | ((first | ((with_reducible apply Nm.mk); focus ((try simp only [lns]); exact rfl)) | ((with_reducible apply Wr.i64); focus omega) | ((with_reducible apply Need.mk); focus (simp only [lns]; omega)) | ((with_reducible apply Elem.lst); focus omega) | (apply CallN.mk (cC)) | (apply CallN.mk (cV)) | (with_reducible first | apply Bif.T | apply Bif.F) | ((with_reducible apply Bif.dec) <;> intro h <;> (try simp only [lns] at h)) | (with_reducible apply Frz.l)) <;> conv => whnf) | fail)
  · apply Same.bool (by
      refine (vN_mem (mem_ff (j := j) (by omega) ?_)).symm
      rintro ⟨g1, g2⟩
      split at h
      · omega
      · have := g2 (by omega); omega)
    conv => whnf
    repeat' (first | with_reducible apply True.intro | ((with_reducible apply Frz.l) <;> conv => whnf) | fail)
  · have hstep : 0 < gt n.mem j ∧ (0 < j → gt n.mem (j - 1) < gt n.mem j) := by
      split at h
      · exact ⟨by omega, fun h => by omega⟩
      · have := hlast (by omega)
        exact ⟨by omega, fun _ => by omega⟩
    (refine ⟨⟨j + 1, by omega, step_lt hk hstep⟩, ?_⟩; (try dsimp only); conv => whnf); repeat' (first | with_reducible apply True.intro | ((with_reducible apply Same.mk); (focus (first | (rw [if_neg (by omega)]; rfl) | fail)); (conv => whnf)) | ((first | ((with_reducible apply Need.mk); focus omega) | (with_reducible apply Same.rfl) | (apply Same.int; focus rfl) | (with_reducible apply Turn.l) | (with_reducible apply Frz.l)) <;> conv => whnf) | fail)
  · apply Same.bool (vN_all he (mem_of hL (by omega) hk) h).symm
    conv => whnf
    repeat' (first | with_reducible apply True.intro | ((with_reducible apply Frz.l) <;> conv => whnf) | fail)
  · apply Same.bool (vN_rt h).symm
    conv => whnf
    repeat' (first | with_reducible apply True.intro | ((with_reducible apply Frz.l) <;> conv => whnf) | fail)
theorem k_yValid (n : Net) (hn : NetR n) : Con Tryz.prog 48 [netF n] [] (bool (validN n)) [] := by
  have hlm := hn.lm
  have cV := k_refValid n.cl .no hn.lc
  have cC := k_Has n.mem n.rt .no hn.lm
  by_cases hA : (0 ≤ n.ep ∧ n.ep ≤ 1073741824) ∧ (1 ≤ n.mem.length ∧ n.mem.length ≤ 12) ∧ validR n.cl = true
  case neg =>
    have hv : validN n = false := by
      rw [Bool.eq_false_iff, Ne, validN_iff]
      rintro ⟨v1, ⟨v2, v3, _⟩, _, v4⟩
      exact hA ⟨v1, ⟨v2, v3⟩, v4⟩
    rw [hv]
    generalize validR n.cl = vc at *
    refine spec_of_run ttok mixed (T0 := 72057856030933023) (ts := [.tmp 2]) 64 rfl rfl rfl rfl (by simp) rfl ?_
    conv => whnf
    repeat' (first | with_reducible apply True.intro | ((first | ((with_reducible apply Nm.mk); focus ((try simp only [lns]); exact rfl)) | (apply CallN.mk (cV)) | (with_reducible first | apply Bif.T | apply Bif.F) | ((with_reducible apply Bif.dec) <;> intro h <;> (try simp only [lns] at h)) | (with_reducible apply Bif.not) | ((with_reducible apply Bif.mk) <;> intro h <;> (try (exact absurd ⟨⟨by omega, by omega⟩, ⟨by omega, by omega⟩, by assumption⟩ hA))) | (apply Same.bool; focus (with_reducible rfl)) | (with_reducible apply Frz.l)) <;> conv => whnf) | fail)
  obtain ⟨he, hL, hvc⟩ := hA
  rw [hvc] at cV
  refine spec_of_run ttok mixed (T0 := 72057856030933023) (ts := [.tmp 2]) 64 rfl rfl rfl rfl (by simp) rfl ?_
  conv => whnf
  repeat' (first | ((first | ((with_reducible apply Nm.mk); focus ((try simp only [lns]); exact rfl)) | (apply CallN.mk (cV)) | (with_reducible first | apply Bif.T | apply Bif.F) | ((with_reducible apply Bif.dec) <;> intro h <;> (try simp only [lns] at h) <;> (try (exfalso; omega))) | (with_reducible apply Bif.not) | (with_reducible apply Frz.l)) <;> conv => whnf) | fail)
  refine loop_keep ttok mixed (T0 := 72057856030933023) [34, 35] (ι := {j : Nat // j ≤ n.mem.length ∧ ∀ k, k < j → 0 < gt n.mem k ∧ (0 < k → gt n.mem (k - 1) < gt n.mem k)})
    (fun j => [(36, int ((j.1 : Nat) : Int)), (1, .pb 0 [])]) (fun _ => [.cells (netF n)]) (fun j => n.mem.length - j.1) ⟨0, by omega, none_lt⟩ ?_
  conv => whnf
  repeat' (first | ((first | (with_reducible apply Same.rfl) | (apply Same.int; focus rfl) | (with_reducible apply Frz.l)) <;> conv => whnf) | fail)
  rintro ⟨j, hj, hk⟩
  dsimp only
  have h0 : j < n.mem.length → 0 ≤ gt n.mem j := fun h => hn.p _ (gt_mem h)
  have e1 : ((j : Int) - 1).toNat = j - 1 := by omega
  conv => whnf
  repeat' (first | ((first | ((with_reducible apply Nm.mk); focus ((try simp only [lns]); exact rfl)) | ((with_reducible apply Wr.i64); focus omega) | ((with_reducible apply Need.mk); focus (simp only [lns]; omega)) | ((with_reducible apply Elem.lst); focus omega) | (apply CallN.mk (cC)) | (with_reducible first | apply Bif.T | apply Bif.F) | ((with_reducible first | apply Bif.dec | apply Bif.beq) <;> intro h <;> (try simp only [lns] at h)) | (with_reducible apply Frz.l)) <;> conv => whnf) | fail)
  · apply Same.bool (vN_mem (mem_ff (j := j) (by omega) (fun g => by omega))).symm
    conv => whnf
    repeat' (first | with_reducible apply True.intro | ((with_reducible apply Frz.l) <;> conv => whnf) | fail)
  · rw [e1] at h
    apply Same.bool (vN_mem (mem_ff (j := j) (by omega) (fun g => by have := g.2 (by omega); omega))).symm
    conv => whnf
    repeat' (first | with_reducible apply True.intro | ((with_reducible apply Frz.l) <;> conv => whnf) | fail)
  · rw [e1] at h
    have hj0 := h0 (by omega)
    (refine ⟨⟨j + 1, by omega, step_lt hk ⟨by omega, fun _ => by omega⟩⟩, ?_⟩; (try dsimp only); conv => whnf); repeat' (first | with_reducible apply True.intro | ((first | ((with_reducible apply Need.mk); focus omega) | (with_reducible apply Same.rfl) | (apply Same.int; focus rfl) | (with_reducible apply Turn.l) | (with_reducible apply Frz.l)) <;> conv => whnf) | fail)
  · have hj0 := h0 (by omega)
    (refine ⟨⟨j + 1, by omega, step_lt hk ⟨by omega, fun g => by omega⟩⟩, ?_⟩; (try dsimp only); conv => whnf); repeat' (first | with_reducible apply True.intro | ((first | ((with_reducible apply Need.mk); focus omega) | (with_reducible apply Same.rfl) | (apply Same.int; focus rfl) | (with_reducible apply Turn.l) | (with_reducible apply Frz.l)) <;> conv => whnf) | fail)
  · have hm := mem_of hL (by omega) hk
    apply Same.bool (by
      by_cases hr : n.rt ∈ n.mem
      · rw [vN_all he hm hr, hvc, decide_eq_true hr]
      · rw [vN_rt hr, decide_eq_false hr])
    conv => whnf
    repeat' (first | with_reducible apply True.intro | ((with_reducible apply Frz.l) <;> conv => whnf) | fail)
end Go.Fw

/- Networks: members together, sorted and compacted; searched. -/
namespace Go.Fw
open Go.Proofs
set_option maxHeartbeats 8000000
set_option maxRecDepth 4000
/-- Two lists of members, taken together up to i and k. -/
structure UniI (a b : List Int) where
  i : Nat
  k : Nat
  o : List Int
  hi : i ≤ a.length
  hk : k ≤ b.length
  pw : o.Pairwise (· < ·)
  mem : ∀ z, z ∈ o ↔ z ∈ a.take i ∨ z ∈ b.take k
  ol : o.length ≤ i + k
  la : ∀ z ∈ o, ∀ x, i ≤ x → x < a.length → z < gt a x
  lb : ∀ z ∈ o, ∀ x, k ≤ x → x < b.length → z < gt b x
theorem take_mem {l : List Int} {i : Nat} (hi : i < l.length) {z : Int} : z ∈ l.take (i + 1) ↔ z ∈ l.take i ∨ z = gt l i := by
  rw [take_gt hi]; simp
theorem snoc_pw {o : List Int} {x : Int} (h : o.Pairwise (· < ·)) (g : ∀ z ∈ o, z < x) : (o ++ [x]).Pairwise (· < ·) :=
  List.pairwise_append.2 ⟨h, List.pairwise_singleton _ _, fun z hz y hy => by rw [List.mem_singleton.1 hy]; exact g z hz⟩
/-- One round: the number x, which is the least of both. -/
theorem UniI.step {a b : List Int} (u : UniI a b) (pa : a.Pairwise (· < ·)) (pb : b.Pairwise (· < ·)) {x : Int} (i' k' : Nat)
    (hx : (u.i < a.length ∧ gt a u.i = x) ∨ (u.k < b.length ∧ gt b u.k = x)) (ha : u.i < a.length → x ≤ gt a u.i) (hb : u.k < b.length → x ≤ gt b u.k)
    (ei : (u.i < a.length ∧ gt a u.i = x ∧ i' = u.i + 1) ∨ (¬ (u.i < a.length ∧ gt a u.i = x) ∧ i' = u.i)) (ek : (u.k < b.length ∧ gt b u.k = x ∧ k' = u.k + 1) ∨ (¬ (u.k < b.length ∧ gt b u.k = x) ∧ k' = u.k)) :
    ∃ v : UniI a b, v.i = i' ∧ v.k = k' ∧ v.o = u.o ++ [x] := by
  have lox : ∀ z ∈ u.o, z < x := fun z hz => by
    rcases hx with ⟨h1, h2⟩ | ⟨h1, h2⟩
    · rw [← h2]; exact u.la z hz _ (Nat.le_refl _) h1
    · rw [← h2]; exact u.lb z hz _ (Nat.le_refl _) h1
  have upa : ∀ y, i' ≤ y → y < a.length → x < gt a y := fun y h1 h2 => by
    rcases ei with ⟨g1, g2, g3⟩ | ⟨g1, g2⟩
    · rw [← g2]; exact pw_asc pa (by omega) h2
    · have h3 := ha (by omega)
      have h4 : gt a u.i ≠ x := fun h => g1 ⟨by omega, h⟩
      by_cases hy : y = u.i
      · subst hy; omega
      · have := pw_asc pa (show u.i < y by omega) h2; omega
  have upb : ∀ y, k' ≤ y → y < b.length → x < gt b y := fun y h1 h2 => by
    rcases ek with ⟨g1, g2, g3⟩ | ⟨g1, g2⟩
    · rw [← g2]; exact pw_asc pb (by omega) h2
    · have h3 := hb (by omega)
      have h4 : gt b u.k ≠ x := fun h => g1 ⟨by omega, h⟩
      by_cases hy : y = u.k
      · subst hy; omega
      · have := pw_asc pb (show u.k < y by omega) h2; omega
  refine ⟨⟨i', k', u.o ++ [x], by have := u.hi; omega, by have := u.hk; omega, snoc_pw u.pw lox, fun z => ?_, by have := u.ol; simp only [List.length_append, List.length_singleton]; omega, fun z hz y h1 h2 => ?_, fun z hz y h1 h2 => ?_⟩, rfl, rfl, rfl⟩
  · rw [List.mem_append, u.mem, List.mem_singleton]
    have e1 : z ∈ a.take i' ↔ z ∈ a.take u.i ∨ (z = x ∧ u.i < a.length ∧ gt a u.i = x) := by
      rcases ei with ⟨g1, g2, g3⟩ | ⟨g1, g2⟩
      · rw [g3, take_mem g1, g2]; simp [g1]
      · rw [g2]; simp [g1]
    have e2 : z ∈ b.take k' ↔ z ∈ b.take u.k ∨ (z = x ∧ u.k < b.length ∧ gt b u.k = x) := by
      rcases ek with ⟨g1, g2, g3⟩ | ⟨g1, g2⟩
      · rw [g3, take_mem g1, g2]; simp [g1]
      · rw [g2]; simp [g1]
    rw [e1, e2]
    constructor
    · rintro ((h | h) | h)
      · exact .inl (.inl h)
      · exact .inr (.inl h)
      · rcases hx with g | g
        · exact .inl (.inr ⟨h, g⟩)
        · exact .inr (.inr ⟨h, g⟩)
    · rintro ((h | h) | (h | h))
      · exact .inl (.inl h)
      · exact .inr h.1
      · exact .inl (.inr h)
      · exact .inr h.1
  · rcases List.mem_append.1 hz with h | h
    · have := upa y h1 h2; have := lox z h; omega
    · rw [List.mem_singleton.1 h]; exact upa y h1 h2
  · rcases List.mem_append.1 hz with h | h
    · have := upb y h1 h2; have := lox z h; omega
    · rw [List.mem_singleton.1 h]; exact upb y h1 h2
theorem UniI.done {a b : List Int} (u : UniI a b) (hi : a.length ≤ u.i) (hk : b.length ≤ u.k) : u.o = uniU a b := by
  refine srtU_eq u.pw fun z => ?_
  rw [u.mem, List.take_of_length_le hi, List.take_of_length_le hk, List.mem_append]
/-- The first K elements are those of w up to n, each once. -/
structure CmpI (w v : List Int) (K n : Nat) : Prop where
  len : v.length = w.length
  K1 : 1 ≤ K ∧ K + 1 ≤ n ∧ n ≤ w.length
  pw : (v.take K).Pairwise (· < ·)
  mem : ∀ z, z ∈ v.take K ↔ z ∈ w.take n
  same : ∀ i, n ≤ i + 1 → gt v i = gt w i
theorem srt_take {w : List Int} (hs : Srt cI w 0 w.length) {n : Nat} (hn : n < w.length) (h0 : 0 < n) {z : Int} (hz : z ∈ w.take n) : z ≤ gt w (n - 1) := by
  obtain ⟨i, hi, e⟩ := mem_gt hz
  simp only [List.length_take] at hi
  rw [gt_take (by omega)] at e
  rw [← e]
  by_cases h : i = n - 1
  · subst h; exact Int.le_refl _
  · exact srt_iff.1 hs i (n - 1) (by omega) (by omega) (by omega)
theorem CmpI.start {w : List Int} {k : Nat} (hk : 1 ≤ k ∧ k < w.length) (h : ∀ i, 0 < i → i < k → gt w (i - 1) < gt w i) (he : gt w k = gt w (k - 1)) : CmpI w w k (k + 1) := by
  refine ⟨rfl, ⟨hk.1, Nat.le_refl _, hk.2⟩, asc_pw fun i hi h0 => ?_, fun z => ?_, fun i _ => rfl⟩
  · simp only [List.length_take] at hi
    rw [gt_take (by omega), gt_take (by omega)]
    exact h i h0 (by omega)
  · rw [take_mem hk.2]
    constructor
    · exact .inl
    · rintro (h | h)
      · exact h
      · rw [h, he, ← gt_take (n := k) (by omega)]
        exact gt_mem (by simp; omega)
theorem CmpI.skip {w v : List Int} {K n : Nat} (c : CmpI w v K n) (hn : n < w.length) (he : gt w n = gt w (n - 1)) : CmpI w v K (n + 1) := by
  have h1 := c.K1
  refine ⟨c.len, by omega, c.pw, fun z => ?_, fun i hi => c.same i (by omega)⟩
  rw [c.mem, take_mem hn]
  constructor
  · exact .inl
  · rintro (h | h)
    · exact h
    · rw [h, he, ← gt_take (n := n) (by omega)]
      exact gt_mem (by simp; omega)
theorem CmpI.take {w v : List Int} {K n : Nat} (c : CmpI w v K n) (hs : Srt cI w 0 w.length) (hn : n < w.length) (he : gt w n ≠ gt w (n - 1)) : CmpI w (v.set K (gt w n)) (K + 1) (n + 1) := by
  have h1 := c.K1
  have hl := c.len
  have hlt : gt w (n - 1) < gt w n := by
    have := srt_iff.1 hs (n - 1) n (by omega) (by omega) hn
    omega
  have et : (v.set K (gt w n)).take (K + 1) = v.take K ++ [gt w n] := by
    rw [take_gt (by rw [List.length_set]; omega), List.take_set_of_le (Nat.le_refl _), gt_set (by omega), if_pos rfl]
  refine ⟨by rw [List.length_set, hl], by omega, ?_, fun z => ?_, fun i hi => ?_⟩
  · rw [et]
    refine snoc_pw c.pw fun z hz => ?_
    have := srt_take hs hn (by omega) ((c.mem z).1 hz)
    omega
  · rw [et, List.mem_append, c.mem, List.mem_singleton, take_mem hn]
  · rw [gt_set (by omega), if_neg (by omega)]
    exact c.same i (by omega)
theorem CmpI.done {w v : List Int} {K n : Nat} (c : CmpI w v K n) (hn : w.length ≤ n) : v.take K = srtU w :=
  srtU_eq c.pw fun z => by rw [c.mem, List.take_of_length_le hn]
theorem k_Compact (w : List Int) (hs : Srt cI w 0 w.length) (hl : w.length ≤ 1000) : Con Tryz.prog 34 [.ov 1 0 0 w.length] [.arr none 1 (lst u64 w)] (.ov 1 0 0 (srtU w).length) [.arr none 1 (lst u64 (srtU w))] := by
  have all : (∀ i, 0 < i → i < w.length → gt w (i - 1) < gt w i) → srtU w = w := fun h => srtU_self (asc_pw fun k h1 h2 => h k h2 h1)
  refine spec_of_run ttok mixed (T0 := 17596514574653) (ts := [.tmp 2]) 61 rfl rfl rfl rfl (by simp) rfl ?_
  conv => whnf
  by_cases h2 : w.length < 2
  · rw [all fun i h0 h1 => by omega]
    repeat' (first | with_reducible apply True.intro | ((first | ((with_reducible apply Bif.dec) <;> intro h <;> (try simp only [lns] at h) <;> (try (exfalso; omega))) | (with_reducible apply Same.rfl) | (with_reducible apply Cut.l) | (with_reducible apply Frz.l)) <;> conv => whnf) | fail)
  repeat' (first | ((first | ((with_reducible apply Bif.dec) <;> intro h <;> (try simp only [lns] at h) <;> (try (exfalso; omega))) | (with_reducible apply Frz.l)) <;> conv => whnf) | fail)
  refine loop_keep ttok mixed (T0 := 17596514574653) [0] (ι := {k : Nat // 1 ≤ k ∧ k ≤ w.length ∧ ∀ i, 0 < i → i < k → gt w (i - 1) < gt w i})
    (fun k => [(3, int ((k.1 : Nat) : Int))]) (fun _ => [.arr none 1 (lst u64 w)]) (fun k => w.length - k.1) ⟨1, by omega, by omega, fun i h0 h1 => by omega⟩ ?_
  conv => whnf
  repeat' (first | ((first | (with_reducible apply Same.rfl) | (apply Same.int; focus rfl) | (with_reducible apply Frz.l)) <;> conv => whnf) | fail)
  rintro ⟨k, hk1, hk2, hk3⟩
  dsimp only
  have e1 : ((k : Int) - 1).toNat = k - 1 := by omega
  conv => whnf
  repeat' (first | ((first | ((with_reducible apply Nm.mk); focus ((try simp only [lns]); exact rfl)) | ((with_reducible apply Wr.i64); focus omega) | ((with_reducible apply Need.mk); focus first | omega | kernel_rfl) | ((with_reducible apply Elem.lst); focus omega) | ((with_reducible first | apply Bif.dec | apply Bif.beq) <;> intro h <;> (try simp only [lns] at h)) | (with_reducible apply Same.rfl) | (with_reducible apply Frz.l)) <;> conv => whnf) | fail)
  · rw [e1] at h
    refine loop_keep ttok mixed (T0 := 17596514574653) [0, 4] (ι := {p : Nat × Nat × List Int // CmpI w p.2.2 p.1 (k + p.2.1) ∧ 1 ≤ p.2.1})
      (fun p => [(3, int (p.1.1 : Int)), (5, int (p.1.2.1 : Int))]) (fun p => [.arr none 1 (lst u64 p.1.2.2)]) (fun p => w.length - p.1.2.1) ⟨(k, 1, w), CmpI.start ⟨hk1, by omega⟩ hk3 h, Nat.le_refl _⟩ ?_
    conv => whnf
    repeat' (first | ((first | (with_reducible apply Same.rfl) | (apply Same.int; focus rfl) | (with_reducible apply Frz.l)) <;> conv => whnf) | fail)
    rintro ⟨⟨K, k2, v⟩, c, hk4⟩
    dsimp only at c hk4 ⊢
    have hvl := c.len
    have hK := c.K1
    have e2 : (k + ((k2 : Int) - 1).toNat) = k + k2 - 1 := by omega
    conv => whnf
    repeat' (first | ((first | (with_reducible apply Nm.set _ (rfl)) | ((with_reducible apply Nm.mk); focus ((try simp only [lns]); exact rfl)) | ((with_reducible apply Wr.i64); focus omega) | ((with_reducible apply Need.mk); focus first | omega | (simp only [lns]; omega) | kernel_rfl) | ((with_reducible apply Elem.lst); focus omega) | ((with_reducible first | apply Bif.dec | apply Bif.bne) <;> intro h <;> (try simp only [lns] at h)) | (with_reducible apply Same.rfl) | (with_reducible apply Frz.l)) <;> conv => whnf) | fail)
    · rw [e2] at h
      have hv1 : gt v (k + k2) = gt w (k + k2) := c.same _ (by omega)
      have hv2 : gt v (k + k2 - 1) = gt w (k + k2 - 1) := c.same _ (by omega)
      have ct := c.take hs (by omega) (by rw [← hv1, ← hv2]; exact h)
      rw [Nat.add_assoc] at ct
      (refine ⟨⟨(K + 1, k2 + 1, v.set K (gt w (k + k2))), ct, by dsimp only; omega⟩, ?_⟩; (try dsimp only); conv => whnf); repeat' (first | with_reducible apply True.intro | ((with_reducible apply Same.mk); (focus (first | (rw [hv1]; done) | (rw [hv1]; rfl) | fail)); (conv => whnf)) | ((first | ((with_reducible apply Need.mk); focus omega) | (with_reducible apply Same.rfl) | (apply Same.int; focus rfl) | (with_reducible apply Turn.l) | (with_reducible apply Frz.l)) <;> conv => whnf) | fail)
    · rw [e2] at h
      have hv1 : gt v (k + k2) = gt w (k + k2) := c.same _ (by omega)
      have hv2 : gt v (k + k2 - 1) = gt w (k + k2 - 1) := c.same _ (by omega)
      have ct := c.skip (by omega) (by rw [← hv1, ← hv2]; exact h)
      rw [Nat.add_assoc] at ct
      (refine ⟨⟨(K, k2 + 1, v), ct, by dsimp only; omega⟩, ?_⟩; (try dsimp only); conv => whnf); repeat' (first | with_reducible apply True.intro | ((first | ((with_reducible apply Need.mk); focus omega) | (with_reducible apply Same.rfl) | (apply Same.int; focus rfl) | (with_reducible apply Turn.l) | (with_reducible apply Frz.l)) <;> conv => whnf) | fail)
    · have hd := c.done (by omega)
      have hKl : (srtU w).length = K := by rw [← hd]; simp; omega
      refine Same.mk hKl.symm ?_
      conv => whnf
      refine Cut.r ?_
      conv => whnf
      refine Same.mk (by
        rw [lst_len, hKl, ← hd, List.append_assoc, List.take_left' (by rw [lst_len]; simp; omega)]) ?_
      conv => whnf
      repeat' (first | with_reducible apply True.intro | ((with_reducible apply Frz.l) <;> conv => whnf) | fail)
  · rw [e1] at h
    have hlt : gt w (k - 1) < gt w k := by
      have := srt_iff.1 hs (k - 1) k (by omega) (by omega) (by omega)
      omega
    (refine ⟨⟨k + 1, by omega, by omega, fun i i1 i2 => by
      by_cases hi : i = k
      · subst hi; exact hlt
      · exact hk3 i i1 (by omega)⟩, ?_⟩; (try dsimp only); conv => whnf); repeat' (first | with_reducible apply True.intro | ((first | ((with_reducible apply Need.mk); focus omega) | (with_reducible apply Same.rfl) | (apply Same.int; focus rfl) | (with_reducible apply Turn.l) | (with_reducible apply Frz.l)) <;> conv => whnf) | fail)
  · rw [all fun i i1 i2 => hk3 i i1 (by omega)]
    repeat' (first | with_reducible apply True.intro | ((first | (with_reducible apply Same.rfl) | (with_reducible apply Cut.l) | (with_reducible apply Frz.l)) <;> conv => whnf) | fail)
/-! ### slices.BinarySearch -/
theorem k_BSearch (l : List Int) (x : Int) (t : Tg) (pl : l.Pairwise (· < ·)) (hl : l.length ≤ 1000) : ∃ r hp', (∃ (i : Nat) (b : Bool), r = .tup [int i, bool b] ∧ hp' = [] ∧ ((b = false ∧ x ∉ l) ∨ (b = true ∧ i < l.length ∧ gt l i = x))) ∧ Con Tryz.prog 37 [.fs t 1 (lst u64 l), .v (.int .u64 x)] [] r hp' := by
  have cN : ∀ y : Int, Con Tryz.prog 64 [.v (.int .u64 y)] [] (bool false) [] := fun y => by
    refine spec_of_run ttok mixed (T0 := 5) (ts := [.tmp 2]) 6 rfl rfl rfl rfl (by simp) rfl ?_
    conv => whnf
    repeat' (first | ((with_reducible apply Frz.l) <;> conv => whnf) | fail)
    all_goals (apply Same.bool (by simp); (conv => whnf); repeat' (first | with_reducible apply True.intro | ((with_reducible apply Frz.l) <;> conv => whnf) | fail))
  refine spec_of_runR ttok mixed (T0 := 134251507) (ts := [.tmp 4, .tmp 5]) 54 rfl rfl rfl rfl (by simp) rfl ?_
  conv => whnf
  repeat' (first | ((first | ((with_reducible apply Nm.mk); focus ((try simp only [lns]); exact rfl)) | (with_reducible apply Frz.l)) <;> conv => whnf) | fail)
  refine loop_keep ttok mixed (T0 := 134251507) [0, 1, 6] (ι := {p : Nat × Nat // p.1 ≤ p.2 ∧ p.2 ≤ l.length ∧ (∀ k, k < p.1 → gt l k < x) ∧ ∀ k, p.2 ≤ k → k < l.length → x ≤ gt l k})
    (fun p => [(7, int (p.1.1 : Int)), (8, int (p.1.2 : Int))]) (fun _ => []) (fun p => p.1.2 - p.1.1) ⟨(0, l.length), by simp, by simp, none_lt, fun k h1 h2 => by dsimp only at h1; omega⟩ ?_
  conv => whnf
  repeat' (first | ((first | (with_reducible apply Same.rfl) | (apply Same.int; focus rfl) | (with_reducible apply Frz.l)) <;> conv => whnf) | fail)
  rintro ⟨⟨i, j⟩, hij, hj, lo, hi⟩
  dsimp only at hij hj lo hi ⊢
  have mono : ∀ a b, a ≤ b → b < l.length → gt l a ≤ gt l b := fun a b h1 h2 => by
    by_cases h : a = b
    · subst h; exact Int.le_refl _
    · have := pw_asc pl (show a < b by omega) h2; omega
  conv => whnf
  by_cases hlt : i < j
  · repeat' (first | ((with_reducible apply Wr.half) <;> first | omega | decide | (conv => whnf)) | ((first | ((with_reducible apply Nm.mk); focus ((try simp only [lns]); exact rfl)) | ((with_reducible first | apply Wr.i64 | apply Wr.u64); focus omega) | ((with_reducible apply Need.mk); focus first | omega | (simp only [lns]; omega)) | ((with_reducible apply Elem.lst); focus omega) | (apply CallN.mk (k_cLess _ _)) | ((with_reducible apply Bif.dec) <;> intro h <;> (try simp only [lns] at h) <;> (try (exfalso; omega))) | (with_reducible apply Frz.l)) <;> conv => whnf) | fail)
    · (refine ⟨⟨(((i : Int) + (j : Int)).toNat / 2 + 1, j), by dsimp only; omega, hj, fun k hk => by
        have := mono k (((i : Int) + (j : Int)).toNat / 2) (by dsimp only at hk; omega) (by omega)
        omega, hi⟩, ?_⟩; (try dsimp only); conv => whnf); repeat' (first | with_reducible apply True.intro | ((first | ((with_reducible apply Need.mk); focus omega) | (with_reducible apply Same.rfl) | (apply Same.int; focus rfl) | (with_reducible apply Turn.l) | (with_reducible apply Frz.l)) <;> conv => whnf) | fail)
    · (refine ⟨⟨(i, ((i : Int) + (j : Int)).toNat / 2), by dsimp only; omega, by dsimp only; omega, lo, fun k hk hkl => by
        have := mono (((i : Int) + (j : Int)).toNat / 2) k hk hkl
        omega⟩, ?_⟩; (try dsimp only); conv => whnf); repeat' (first | with_reducible apply True.intro | ((first | ((with_reducible apply Need.mk); focus omega) | (with_reducible apply Same.rfl) | (apply Same.int; focus rfl) | (with_reducible apply Turn.l) | (with_reducible apply Frz.l)) <;> conv => whnf) | fail)
  · have hij2 : i = j := by omega
    subst hij2
    have hno : ¬ (i < l.length ∧ gt l i = x) → x ∉ l := fun hn hx => by
      obtain ⟨k, hk, e⟩ := mem_gt hx
      rcases Nat.lt_or_ge k i with h | h
      · have := lo k h; omega
      · by_cases hki : k = i
        · subst hki; exact hn ⟨hk, e⟩
        · have h1 := hi i (Nat.le_refl _) (by omega)
          have := pw_asc pl (show i < k by omega) hk
          omega
    repeat' (first | ((first | ((with_reducible apply Nm.mk); focus ((try simp only [lns]); exact rfl)) | ((with_reducible apply Need.mk); focus (simp only [lns]; omega)) | ((with_reducible apply Elem.lst); focus omega) | (apply CallN.mk (cN _)) | (with_reducible first | apply Bif.T | apply Bif.F) | ((with_reducible first | apply Bif.dec | apply Bif.beq) <;> intro h <;> (try simp only [lns] at h) <;> (try (exfalso; omega))) | (with_reducible apply Frz.l)) <;> conv => whnf) | fail)
    · (refine ⟨_, _, ⟨i, true, rfl, rfl, .inr ⟨rfl, by omega, h⟩⟩, ?_⟩; conv => whnf); repeat' (first | with_reducible apply True.intro | ((first | (with_reducible apply Same.rfl) | (apply Same.bool; focus (with_reducible rfl)) | (with_reducible apply Frz.l)) <;> conv => whnf) | fail)
    · (refine ⟨_, _, ⟨i, false, rfl, rfl, .inl ⟨rfl, hno fun g => h g.2⟩⟩, ?_⟩; conv => whnf); repeat' (first | with_reducible apply True.intro | ((first | (with_reducible apply Same.rfl) | (apply Same.bool; focus (with_reducible rfl)) | (with_reducible apply Frz.l)) <;> conv => whnf) | fail)
    · (refine ⟨_, _, ⟨i, false, rfl, rfl, .inl ⟨rfl, hno fun g => by omega⟩⟩, ?_⟩; conv => whnf); repeat' (first | with_reducible apply True.intro | ((first | (with_reducible apply Same.rfl) | (apply Same.bool; focus (with_reducible rfl)) | (with_reducible apply Frz.l)) <;> conv => whnf) | fail)
end Go.Fw
