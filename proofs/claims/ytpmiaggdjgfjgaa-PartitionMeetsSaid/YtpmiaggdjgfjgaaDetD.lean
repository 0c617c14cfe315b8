/- Registries: detection.Request. -/
import Derived.Test.YtpmiaggdjgfjgaaMrg
namespace Go.Fw
set_option maxRecDepth 4000
open Go.Proofs
set_option maxHeartbeats 4000000
theorem validR_pw {r : List Clm} (h : validR r = true) : r.Pairwise fun a b => cmpIP a.ip b.ip < 0 := by
  rw [validR, decide_eq_true_eq] at h
  rw [List.pairwise_iff_getElem]
  intro i j hi hj hij
  rw [← gt_eq hi, ← gt_eq hj]
  obtain ⟨d, rfl⟩ : ∃ d, j = i + 1 + d := ⟨j - (i + 1), by omega⟩
  clear hij
  induction d with
  | zero => exact (h.2 (i + 1) (by omega)).2 (by omega)
  | succ d ih => exact cmpIP_trans (ih (by omega)) ((h.2 (i + 1 + (d + 1)) (by omega)).2 (by omega))
theorem cur_pw {r : List Clm} (h : validR r = true) (now : Int) : (cur r now).Pairwise fun a b => cmpIP a.ip b.ip < 0 := (validR_pw h).filter _
theorem pw_gt {l : List Clm} (h : l.Pairwise fun a b => cmpIP a.ip b.ip < 0) {i j : Nat} (hij : i < j) (hj : j < l.length) : cmpIP (gt l i).ip (gt l j).ip < 0 := by
  rw [List.pairwise_iff_getElem] at h
  rw [gt_eq (by omega), gt_eq hj]
  exact h i j (by omega) hj hij
theorem pw_mono {l : List Clm} (h : l.Pairwise fun a b => cmpIP a.ip b.ip < 0) (ip : IP) : ∀ i j, i ≤ j → j < l.length → cmpIP (gt l j).ip ip < 0 → cmpIP (gt l i).ip ip < 0 := fun i j hij hj hc => by
  rcases Nat.lt_or_ge i j with h1 | h1
  · exact cmpIP_trans (pw_gt h h1 hj) hc
  · rw [show i = j by omega]; exact hc
/-- detection.Request: the registry, the status, the error -/
def reqGood (r : List Clm) (now eui seq life : Int) : Prop := validR r = true ∧ eui ≠ 0 ∧ (0 ≤ now ∧ now ≤ 1099511627776) ∧ (0 ≤ seq ∧ seq ≤ 1073741824) ∧ 0 ≤ life ∧ life ≤ 1099511627776
instance (r : List Clm) (now eui seq life : Int) : Decidable (reqGood r now eui seq life) := inferInstanceAs (Decidable (_ ∧ _))
def reqAt (r : List Clm) (now : Int) (ip : IP) : Nat := bsA (fun c => cmpIP c.ip ip) (cur r now)
def reqFound (r : List Clm) (now : Int) (ip : IP) : Bool := bsF (fun c => cmpIP c.ip ip) (cur r now)
def reqUpd (c : Clm) (now seq life : Int) : Clm := ⟨c.ip, c.eui, seq, c.since, max (min (now + life) 1099511627776) c.since⟩
def reqM (r : List Clm) (now : Int) (ip : IP) (eui seq life : Int) : List Clm × Int × Int :=
  if reqGood r now eui seq life then
    (if reqFound r now ip = true then
      (if (gt (cur r now) (reqAt r now ip)).eui ≠ eui then (cur r now, 1, 0)
      else if (gt (cur r now) (reqAt r now ip)).seq > seq then (cur r now, 3, 0)
      else if life = 0 then ((cur r now).take (reqAt r now ip) ++ (cur r now).drop (reqAt r now ip + 1), 0, 0)
      else ((cur r now).set (reqAt r now ip) (reqUpd (gt (cur r now) (reqAt r now ip)) now seq life), 0, 0))
    else if life = 0 then (cur r now, 0, 0)
    else if (cur r now).length ≥ 64 then (cur r now, 2, 0)
    else ((cur r now).take (reqAt r now ip) ++ [⟨ip, eui, seq, now, min (now + life) 1099511627776⟩] ++ (cur r now).drop (reqAt r now ip), 0, 0))
  else if validR r = true ∧ eui ≠ 0 then ([], 0, 2) else ([], 0, 1)
end Go.Fw
