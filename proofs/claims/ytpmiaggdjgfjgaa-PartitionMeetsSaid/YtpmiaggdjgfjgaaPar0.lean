/- Networks that meet, as plain data. -/
import Derived.Test.YtpmiaggdjgfjgaaPdqE
namespace Go.Fw
set_option maxRecDepth 4000
open Go.Proofs
set_option maxHeartbeats 4000000
structure Net where
  ep : Int
  rt : Int
  mem : List Int
  cl : List Clm
  deriving DecidableEq, Inhabited
/-- It lies in shared slices; or in owned ones. -/
abbrev idV (e r : Int) : SV := .agg [.v (.int .i64 e), .v (.int .u64 r)]
abbrev netF (n : Net) : SV := .agg [idV n.ep n.rt, .fs .no 1 (lst u64 n.mem), .fs .no 20 (lst clmV n.cl)]
abbrev netO (n : Net) (a b : Nat) : SV := .agg [idV n.ep n.rt, .ov 1 a 0 n.mem.length, .ov 20 b 0 n.cl.length]
abbrev netH (n : Net) : List OB := [.arr none 1 (lst u64 n.mem), .arr none 20 (lst clmV n.cl)]
def net0 : Net := ⟨0, 0, [], []⟩
/-! ### Ascending lists of numbers -/
/-- A number is put into an ascending list. -/
def insU (x : Int) : List Int → List Int
  | [] => [x]
  | y :: r => if x < y then x :: y :: r else if x = y then y :: r else y :: insU x r
def srtU (l : List Int) : List Int := l.foldr insU []
theorem insU_mem {x z : Int} : ∀ {l : List Int}, z ∈ insU x l ↔ z = x ∨ z ∈ l
  | [] => by simp [insU]
  | y :: r => by
    unfold insU
    split
    · simp
    · split
      · rename_i h; subst h; simp
      · simp only [List.mem_cons, insU_mem (l := r)]
        exact ⟨fun h => by rcases h with h | h | h <;> simp [h], fun h => by rcases h with h | h | h <;> simp [h]⟩
theorem insU_pw {x : Int} : ∀ {l : List Int}, l.Pairwise (· < ·) → (insU x l).Pairwise (· < ·)
  | [], _ => by simp [insU]
  | y :: r, h => by
    obtain ⟨h1, h2⟩ := List.pairwise_cons.1 h
    unfold insU
    split
    · rename_i hx
      refine List.pairwise_cons.2 ⟨fun z hz => ?_, h⟩
      rcases List.mem_cons.1 hz with rfl | hz
      · exact hx
      · have := h1 z hz; omega
    · split
      · exact h
      · refine List.pairwise_cons.2 ⟨fun z hz => ?_, insU_pw h2⟩
        rcases insU_mem.1 hz with rfl | hz
        · omega
        · exact h1 z hz
theorem srtU_mem {z : Int} : ∀ {l : List Int}, z ∈ srtU l ↔ z ∈ l
  | [] => by simp [srtU]
  | y :: r => by
    show z ∈ insU y (srtU r) ↔ _
    rw [insU_mem, srtU_mem (l := r), List.mem_cons]
theorem srtU_pw : ∀ (l : List Int), (srtU l).Pairwise (· < ·)
  | [] => .nil
  | y :: r => insU_pw (srtU_pw r)
theorem srtU_eq {l m : List Int} (h : m.Pairwise (· < ·)) (g : ∀ z, z ∈ m ↔ z ∈ l) : m = srtU l :=
  pw_unique (R := (· < ·)) (fun x y h1 h2 => by omega) h (srtU_pw l) fun z => (g z).trans srtU_mem.symm
theorem srtU_self {l : List Int} (h : l.Pairwise (· < ·)) : srtU l = l := (srtU_eq h fun _ => Iff.rfl).symm
theorem srtU_congr {l m : List Int} (g : ∀ z, z ∈ m ↔ z ∈ l) : srtU m = srtU l := srtU_eq (srtU_pw m) fun z => srtU_mem.trans (g z)
/-- Two lists of members together. -/
def uniU (a b : List Int) : List Int := srtU (a ++ b)
theorem insU_len {x : Int} : ∀ {l : List Int}, (insU x l).length ≤ l.length + 1
  | [] => by simp [insU]
  | y :: r => by
    unfold insU
    split
    · simp
    · split
      · simp
      · have := insU_len (x := x) (l := r)
        simp only [List.length_cons]; omega
theorem srtU_len : ∀ (l : List Int), (srtU l).length ≤ l.length
  | [] => by simp [srtU]
  | y :: r => by
    show (insU y (srtU r)).length ≤ _
    have h1 := insU_len (x := y) (l := srtU r)
    have h2 := srtU_len r
    simp only [List.length_cons]; omega
/-! ### What is computed -/
def memOK (l : List Int) : Bool := decide (1 ≤ l.length ∧ l.length ≤ 12 ∧ (∀ x ∈ l, 0 < x) ∧ l.Pairwise (· < ·))
def validN (n : Net) : Bool := decide (0 ≤ n.ep ∧ n.ep ≤ 1073741824) && (memOK n.mem && (decide (n.rt ∈ n.mem) && validR n.cl))
def betI (a b : Net) : Bool := decide (a.ep > b.ep) || (decide (a.ep = b.ep) && decide (a.rt < b.rt))
theorem validN_iff {n : Net} : validN n = true ↔ (0 ≤ n.ep ∧ n.ep ≤ 1073741824) ∧ (1 ≤ n.mem.length ∧ n.mem.length ≤ 12 ∧ (∀ x ∈ n.mem, 0 < x) ∧ n.mem.Pairwise (· < ·)) ∧ n.rt ∈ n.mem ∧ validR n.cl = true := by
  simp only [validN, memOK, Bool.and_eq_true, decide_eq_true_eq]
abbrev isTm (t : Int) : Prop := 0 ≤ t ∧ t ≤ 1099511627776
/-- partition.Found -/
def foundM (now ep rt : Int) : Net × Int := if rt = 0 then (net0, 1) else if isTm now ∧ 0 ≤ ep ∧ ep ≤ 1073741824 then (⟨ep, rt, [rt], []⟩, 0) else (net0, 2)
/-- partition.Join -/
noncomputable def joinM (a b : Net) (now : Int) : Net × List Clm × Int :=
  if validN a = true ∧ validN b = true then
    (if isTm now then
      (if (uniU a.mem b.mem).length > 12 ∨ (mergeM a.cl b.cl now).2.2 ≠ 0 then (net0, [], 10)
      else (if betI b a = true then ⟨b.ep, b.rt, uniU a.mem b.mem, (mergeM a.cl b.cl now).1⟩ else ⟨a.ep, a.rt, uniU a.mem b.mem, (mergeM a.cl b.cl now).1⟩, (mergeM a.cl b.cl now).2.1, 0))
    else (net0, [], 2))
  else (net0, [], 1)
/-- partition.Leave -/
def hereM (n : Net) (p : List Int) : List Int := n.mem.filter fun x => decide (x ∈ p)
def leaveM (n : Net) (p : List Int) : Net × Int :=
  if validN n = true then
    (if hereM n p = [] then (net0, 9)
    else if n.rt ∈ hereM n p then (⟨n.ep, n.rt, hereM n p, n.cl⟩, 0)
    else if n.ep + 1 > 1073741824 then (net0, 2)
    else (⟨n.ep + 1, gt (hereM n p) 0, hereM n p, n.cl⟩, 0))
  else (net0, 1)
end Go.Fw
