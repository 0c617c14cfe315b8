/- Registries: detection.Request. -/
import Derived.Test.YtmiicjoaaplklaaMrg
namespace Go.Fw
open Go.Proofs
set_option maxHeartbeats 4000000
theorem k_Request1 (ip : IP) (a : Clm) : Con Try.prog 43 [clmV a, ipV ip] [] (int (cmpIP a.ip ip)) [] := by
  refine spec_of_run ttok mixed (T0 := 31) (ts := [.tmp 4]) 9 rfl rfl rfl rfl (by simp) rfl ?_
  conv => whnf
  repeat' (first | with_reducible apply True.intro | ((first | ((with_reducible apply Nm.mk); focus ((try simp only [lns, ipRows_take]); exact rfl)) | ((with_reducible apply Need.mk); focus first | omega | exact CleanP.nil rfl | kernel_rfl) | (apply CallN.mk (k_bytesCompare _ _ _ _)) | (apply Same.int; focus rfl)) <;> conv => whnf) | fail)
theorem validR_pw {r : List Clm} (h : validR r = true) : r.Pairwise fun a b => cmpIP a.ip b.ip < 0 := by
  rw [validR, decide_eq_true_eq] at h
  rw [List.pairwise_iff_getElem]
  intro i j hi hj hij
  rw [← gt_eq hi, ← gt_eq hj]
  obtain ⟨d, rfl⟩ : ∃ d, j = i + 1 + d := ⟨j - (i + 1), by omega⟩
  clear hij
  induction d with
  | zero => exact (h.2 (i + 1) (by omega)).2 (by omega)
  | succ d ih => exact cmpIP_trans (ih (by omega)) ((h.2 (i + 1 + (d + 1)) (by omega)).2 (by omega))
theorem cur_pw {r : List Clm} (h : validR r = true) (now : Int) : (cur r now).Pairwise fun a b => cmpIP a.ip b.ip < 0 := (validR_pw h).filter _
theorem pw_gt {l : List Clm} (h : l.Pairwise fun a b => cmpIP a.ip b.ip < 0) {i j : Nat} (hij : i < j) (hj : j < l.length) : cmpIP (gt l i).ip (gt l j).ip < 0 := by
  rw [List.pairwise_iff_getElem] at h
  rw [gt_eq (by omega), gt_eq hj]
  exact h i j (by omega) hj hij
theorem pw_mono {l : List Clm} (h : l.Pairwise fun a b => cmpIP a.ip b.ip < 0) (ip : IP) : ∀ i j, i ≤ j → j < l.length → cmpIP (gt l j).ip ip < 0 → cmpIP (gt l i).ip ip < 0 := fun i j hij hj hc => by
  rcases Nat.lt_or_ge i j with h1 | h1
  · exact cmpIP_trans (pw_gt h h1 hj) hc
  · rw [show i = j by omega]; exact hc
theorem validR_len {r : List Clm} (h : validR r = true) : r.length ≤ 64 := by rw [validR, decide_eq_true_eq] at h; exact h.1
/-- detection.Request: the registry, the status, the error -/
def reqGood (r : List Clm) (now eui seq life : Int) : Prop := validR r = true ∧ eui ≠ 0 ∧ (0 ≤ now ∧ now ≤ 1099511627776) ∧ (0 ≤ seq ∧ seq ≤ 1073741824) ∧ 0 ≤ life ∧ life ≤ 1099511627776
instance (r : List Clm) (now eui seq life : Int) : Decidable (reqGood r now eui seq life) := inferInstanceAs (Decidable (_ ∧ _))
def reqAt (r : List Clm) (now : Int) (ip : IP) : Nat := bsA (fun c => cmpIP c.ip ip) (cur r now)
def reqFound (r : List Clm) (now : Int) (ip : IP) : Bool := bsF (fun c => cmpIP c.ip ip) (cur r now)
def reqUpd (c : Clm) (now seq life : Int) : Clm := ⟨c.ip, c.eui, seq, c.since, max (min (now + life) 1099511627776) c.since⟩
def reqM (r : List Clm) (now : Int) (ip : IP) (eui seq life : Int) : List Clm × Int × Int :=
  if reqGood r now eui seq life then
    (if reqFound r now ip = true then
      (if (gt (cur r now) (reqAt r now ip)).eui ≠ eui then (cur r now, 1, 0)
      else if (gt (cur r now) (reqAt r now ip)).seq > seq then (cur r now, 3, 0)
      else if life = 0 then ((cur r now).take (reqAt r now ip) ++ (cur r now).drop (reqAt r now ip + 1), 0, 0)
      else ((cur r now).set (reqAt r now ip) (reqUpd (gt (cur r now) (reqAt r now ip)) now seq life), 0, 0))
    else if life = 0 then (cur r now, 0, 0)
    else if (cur r now).length ≥ 64 then (cur r now, 2, 0)
    else ((cur r now).take (reqAt r now ip) ++ [⟨ip, eui, seq, now, min (now + life) 1099511627776⟩] ++ (cur r now).drop (reqAt r now ip), 0, 0))
  else if validR r = true ∧ eui ≠ 0 then ([], 0, 2) else ([], 0, 1)
theorem k_Request (r : List Clm) (t : Tg) (now : Int) (ip : IP) (eui seq life : Int) (hl : r.length ≤ 100000) :
    Con Try.prog 21 [.fs t 20 (lst clmV r), int now, ipV ip, u64 eui, int seq, int life] [] (.tup [.ov 20 0 0 (reqM r now ip eui seq life).1.length, int (reqM r now ip eui seq life).2.1, int (reqM r now ip eui seq life).2.2]) [.arr none 20 (lst clmV (reqM r now ip eui seq life).1)] := by
  refine spec_of_run ttok mixed (T0 := 5981528517571564229053199389813633343) (ts := [.tmp 12, .tmp 13, .tmp 14]) 128 rfl rfl rfl rfl (by simp) rfl ?_
  conv => whnf
  by_cases hg : reqGood r now eui seq life
  · obtain ⟨hv, h1, h2, h3, h4⟩ := hg
    have hv64 := validR_len hv
    have hcl := cur_len r now
    have hle := bsA_le (fun c => cmpIP c.ip ip) (cur r now)
    have hB := k_BSearch_Clm 43 ip (fun c => cmpIP c.ip ip) (k_Request1 ip) (cur r now) .no (by omega) (pw_mono (cur_pw hv now) ip)
    rw [show reqM r now ip eui seq life = _ from if_pos ⟨hv, h1, h2, h3, h4⟩]
    rw [show bsA (fun c => cmpIP c.ip ip) (cur r now) = reqAt r now ip from rfl] at hle hB
    rw [show bsF (fun c => cmpIP c.ip ip) (cur r now) = reqFound r now ip from rfl] at hB
    have hlt : reqFound r now ip = true → reqAt r now ip < (cur r now).length := fun h => by
      simp only [reqFound, bsF, Bool.and_eq_true, decide_eq_true_eq] at h
      exact h.1
    generalize reqAt r now ip = at_ at *
    generalize reqFound r now ip = fd at *
    cases fd
    · rw [if_neg (by simp)]
      by_cases hlife : life = 0
      · rw [if_pos hlife]
        repeat' (first | with_reducible apply True.intro | ((with_reducible apply Bif.tt hv); conv => whnf) | ((first | ((with_reducible apply Nm.mk); focus ((try simp only [lns, ipRows_take]); exact rfl)) | ((with_reducible apply Need.mk); focus first | (simp only [lns, ipRows_take]; omega) | exact CleanP.nil rfl) | (apply CallN.mk (k_Valid r t (by omega))) | (apply CallN.mk (k_isTime _)) | (apply CallN.mk (k_current r t now (by omega))) | (apply CallN.mk (hB)) | (apply CallN.mk (k_later _ _ (by omega) (by omega))) | (with_reducible apply Bif.F) | ((with_reducible first | apply Bif.dec | apply Bif.beq) <;> intro h <;> (try simp only [lns, ipRows_take] at h) <;> (try (exfalso; omega))) | (with_reducible apply Bif.not) | (with_reducible apply Same.rfl) | (apply Same.int; focus rfl) | (with_reducible first | apply Cut.l | apply GiveN.lend)) <;> conv => whnf) | fail)
      · rw [if_neg hlife]
        by_cases hfull : (cur r now).length ≥ 64
        · rw [if_pos hfull]
          repeat' (first | with_reducible apply True.intro | ((with_reducible apply Bif.tt hv); conv => whnf) | ((first | ((with_reducible apply Nm.mk); focus ((try simp only [lns, ipRows_take]); exact rfl)) | ((with_reducible apply Need.mk); focus first | (simp only [lns, ipRows_take]; omega) | exact CleanP.nil rfl) | (apply CallN.mk (k_Valid r t (by omega))) | (apply CallN.mk (k_isTime _)) | (apply CallN.mk (k_current r t now (by omega))) | (apply CallN.mk (hB)) | (apply CallN.mk (k_later _ _ (by omega) (by omega))) | (with_reducible apply Bif.F) | ((with_reducible first | apply Bif.dec | apply Bif.beq) <;> intro h <;> (try simp only [lns, ipRows_take] at h) <;> (try (exfalso; omega))) | (with_reducible apply Bif.not) | (with_reducible apply Same.rfl) | (apply Same.int; focus rfl) | (with_reducible first | apply Cut.l | apply GiveN.lend)) <;> conv => whnf) | fail)
        · rw [if_neg hfull]
          have hI := k_Insert_Clm (lst clmV (cur r now)) (clmV ⟨ip, eui, seq, now, min (now + life) 1099511627776⟩) (some 1) at_ (by rw [lst_len]; exact hle) (by rw [lst_len]; omega)
          rw [lst_len] at hI
          have eI : (lst clmV (cur r now)).take at_ ++ [clmV ⟨ip, eui, seq, now, min (now + life) 1099511627776⟩] ++ (lst clmV (cur r now)).drop at_ = lst clmV ((cur r now).take at_ ++ [⟨ip, eui, seq, now, min (now + life) 1099511627776⟩] ++ (cur r now).drop at_) := by simp [lst, List.map_take, List.map_drop]
          rw [eI] at hI
          have eL : (cur r now).length + 1 = ((cur r now).take at_ ++ [(⟨ip, eui, seq, now, min (now + life) 1099511627776⟩ : Clm)] ++ (cur r now).drop at_).length := by simp; omega
          rw [eL] at hI
          repeat' (first | with_reducible apply True.intro | ((with_reducible apply Bif.tt hv); conv => whnf) | ((with_reducible apply GiveN.mk [0, 2]); (conv => whnf); (apply CallN.mk hI); (conv => whnf)) | ((first | ((with_reducible apply Nm.mk); focus ((try simp only [lns, ipRows_take]); exact rfl)) | ((with_reducible apply Need.mk); focus first | (simp only [lns, ipRows_take]; omega) | exact CleanP.nil rfl) | (apply CallN.mk (k_Valid r t (by omega))) | (apply CallN.mk (k_isTime _)) | (apply CallN.mk (k_current r t now (by omega))) | (apply CallN.mk (hB)) | (apply CallN.mk (k_later _ _ (by omega) (by omega))) | (with_reducible apply Bif.F) | ((with_reducible first | apply Bif.dec | apply Bif.beq) <;> intro h <;> (try simp only [lns, ipRows_take] at h) <;> (try (exfalso; omega))) | (with_reducible apply Bif.not) | (with_reducible apply Same.rfl) | (apply Same.int; focus rfl) | (with_reducible first | apply Cut.l | apply GiveN.lend)) <;> conv => whnf) | fail)
    · have hlt := hlt rfl
      rw [if_pos rfl]
      by_cases he : (gt (cur r now) at_).eui ≠ eui
      · rw [if_pos he]
        repeat' (first | with_reducible apply True.intro | ((with_reducible apply Bif.tt hv); conv => whnf) | ((first | ((with_reducible apply Nm.mk); focus ((try simp only [lns, ipRows_take]); exact rfl)) | ((with_reducible apply Need.mk); focus first | omega | (simp only [lns, ipRows_take]; omega) | exact CleanP.nil rfl) | ((with_reducible apply Elem.lst); focus omega) | (apply CallN.mk (k_Valid r t (by omega))) | (apply CallN.mk (k_isTime _)) | (apply CallN.mk (k_current r t now (by omega))) | (apply CallN.mk (hB)) | (apply CallN.mk (k_later _ _ (by omega) (by omega))) | (with_reducible first | apply Bif.T | apply Bif.F) | ((with_reducible first | apply Bif.dec | apply Bif.beq | apply Bif.bne) <;> intro h <;> (try simp only [lns, ipRows_take] at h) <;> (try (exfalso; omega))) | (with_reducible apply Bif.not) | (with_reducible apply Same.rfl) | (apply Same.int; focus rfl) | (with_reducible first | apply Cut.l | apply GiveN.lend)) <;> conv => whnf) | fail)
      · rw [if_neg he]
        by_cases hs : (gt (cur r now) at_).seq > seq
        · rw [if_pos hs]
          repeat' (first | with_reducible apply True.intro | ((with_reducible apply Bif.tt hv); conv => whnf) | ((first | ((with_reducible apply Nm.mk); focus ((try simp only [lns, ipRows_take]); exact rfl)) | ((with_reducible apply Need.mk); focus first | omega | (simp only [lns, ipRows_take]; omega) | exact CleanP.nil rfl) | ((with_reducible apply Elem.lst); focus omega) | (apply CallN.mk (k_Valid r t (by omega))) | (apply CallN.mk (k_isTime _)) | (apply CallN.mk (k_current r t now (by omega))) | (apply CallN.mk (hB)) | (apply CallN.mk (k_later _ _ (by omega) (by omega))) | (with_reducible first | apply Bif.T | apply Bif.F) | ((with_reducible first | apply Bif.dec | apply Bif.beq | apply Bif.bne) <;> intro h <;> (try simp only [lns, ipRows_take] at h) <;> (try (exfalso; omega))) | (with_reducible apply Bif.not) | (with_reducible apply Same.rfl) | (apply Same.int; focus rfl) | (with_reducible first | apply Cut.l | apply GiveN.lend)) <;> conv => whnf) | fail)
        · rw [if_neg hs]
          by_cases hlife : life = 0
          · rw [if_pos hlife]
            have hD := k_Delete_Clm (lst clmV (cur r now)) at_ (by rw [lst_len]; exact hlt) (by rw [lst_len]; omega)
            rw [lst_len, show (lst clmV (cur r now)).take at_ ++ (lst clmV (cur r now)).drop (at_ + 1) = lst clmV ((cur r now).take at_ ++ (cur r now).drop (at_ + 1)) by simp [lst, List.map_take, List.map_drop], show (cur r now).length - 1 = ((cur r now).take at_ ++ (cur r now).drop (at_ + 1)).length by simp; omega] at hD
            repeat' (first | with_reducible apply True.intro | ((with_reducible apply Bif.tt hv); conv => whnf) | ((with_reducible apply GiveN.mk [0]); (conv => whnf); (apply CallN.mk hD); (conv => whnf)) | ((first | ((with_reducible apply Nm.mk); focus ((try simp only [lns, ipRows_take]); exact rfl)) | ((with_reducible apply Wr.i64); focus omega) | ((with_reducible apply Need.mk); focus first | omega | (simp only [lns, ipRows_take]; omega) | exact CleanP.nil rfl) | ((with_reducible apply Elem.lst); focus omega) | (apply CallN.mk (k_Valid r t (by omega))) | (apply CallN.mk (k_isTime _)) | (apply CallN.mk (k_current r t now (by omega))) | (apply CallN.mk (hB)) | (apply CallN.mk (k_later _ _ (by omega) (by omega))) | (with_reducible first | apply Bif.T | apply Bif.F) | ((with_reducible first | apply Bif.dec | apply Bif.beq | apply Bif.bne) <;> intro h <;> (try simp only [lns, ipRows_take] at h) <;> (try (exfalso; omega))) | (with_reducible apply Bif.not) | (with_reducible apply Same.rfl) | (apply Same.int; focus rfl) | (with_reducible first | apply Cut.l | apply GiveN.lend)) <;> conv => whnf) | fail)
          · rw [if_neg hlife]
            have eS : ∀ x y : Clm, ((cur r now).set at_ x).set at_ y = (cur r now).set at_ y := fun x y => List.set_set ..
            let x1 : Clm := ⟨(gt (cur r now) at_).ip, (gt (cur r now) at_).eui, seq, (gt (cur r now) at_).since, (gt (cur r now) at_).upto⟩
            let y1 : Clm := gt ((cur r now).set at_ x1) at_
            let x2 : Clm := ⟨y1.ip, y1.eui, y1.seq, y1.since, max (min (now + life) 1099511627776) y1.since⟩
            have eG : ∀ x : Clm, gt ((cur r now).set at_ x) at_ = x := fun x => by rw [gt_set hlt, if_pos rfl]
            repeat' (first | with_reducible apply True.intro | ((with_reducible apply Bif.tt hv); conv => whnf) | ((with_reducible apply Nm.set (f := clmV) x1); (focus rfl); (conv => whnf)) | ((with_reducible apply Nm.set (f := clmV) x2); (focus rfl); (conv => whnf)) | ((with_reducible apply Same.mk); (focus (simp only [List.length_set]; done)); (conv => whnf)) | ((with_reducible apply Same.mk); (focus (simp only [eS, x2, y1, eG, reqUpd, x1]; done)); (conv => whnf)) | ((first | ((with_reducible apply Nm.mk); focus ((try simp only [lns, ipRows_take]); exact rfl)) | ((with_reducible apply Need.mk); focus first | omega | (simp only [lns, ipRows_take]; omega) | exact CleanP.nil rfl) | ((with_reducible apply Elem.lst); focus first | omega | (simp only [lns, ipRows_take]; omega)) | (apply CallN.mk (k_Valid r t (by omega))) | (apply CallN.mk (k_isTime _)) | (apply CallN.mk (k_current r t now (by omega))) | (apply CallN.mk (hB)) | (apply CallN.mk (k_later _ _ (by omega) (by omega))) | (with_reducible first | apply Bif.T | apply Bif.F) | ((with_reducible first | apply Bif.dec | apply Bif.beq | apply Bif.bne) <;> intro h <;> (try simp only [lns, ipRows_take] at h) <;> (try (exfalso; omega))) | (with_reducible apply Bif.not) | (apply Same.int; focus rfl) | (with_reducible first | apply Cut.l | apply GiveN.lend)) <;> conv => whnf) | fail)
  · have em : reqM r now ip eui seq life = _ := if_neg hg
    by_cases hv : validR r = true ∧ eui ≠ 0
    · rw [if_pos hv] at em
      rw [em]
      have hg2 : ¬ ((0 ≤ now ∧ now ≤ 1099511627776) ∧ (0 ≤ seq ∧ seq ≤ 1073741824) ∧ 0 ≤ life ∧ life ≤ 1099511627776) := fun h => hg ⟨hv.1, hv.2, h⟩
      clear em hg
      repeat' (first | with_reducible apply True.intro | ((with_reducible apply Bif.tt hv.1); conv => whnf) | ((first | (apply CallN.mk (k_Valid r t (by omega))) | (apply CallN.mk (k_isTime _)) | (with_reducible first | apply Bif.T | apply Bif.F) | ((with_reducible first | apply Bif.dec | apply Bif.beq) <;> intro h <;> (try simp only [lns, ipRows_take] at h) <;> (try (exfalso; omega))) | (with_reducible apply Bif.not) | (with_reducible apply Same.rfl) | (apply Same.int; focus rfl) | (apply Same.rfl)) <;> conv => whnf) | fail)
    · rw [if_neg hv] at em
      rw [em]
      clear em hg
      cases hv1 : validR r
      · repeat' (first | with_reducible apply True.intro | ((with_reducible apply Bif.ff hv1); conv => whnf) | ((first | (apply CallN.mk (k_Valid r t (by omega))) | (with_reducible apply Bif.T) | (with_reducible apply Bif.not) | (with_reducible apply Same.rfl) | (apply Same.int; focus rfl) | (apply Same.rfl)) <;> conv => whnf) | fail)
      · have he0 : eui = 0 := Decidable.not_not.1 fun h => hv ⟨hv1, h⟩
        repeat' (first | with_reducible apply True.intro | ((with_reducible apply Bif.tt hv1); conv => whnf) | ((first | (apply CallN.mk (k_Valid r t (by omega))) | (with_reducible apply Bif.F) | ((with_reducible apply Bif.beq) <;> intro h <;> (try simp only [lns, ipRows_take] at h) <;> (try (exfalso; omega))) | (with_reducible apply Bif.not) | (with_reducible apply Same.rfl) | (apply Same.int; focus rfl) | (apply Same.rfl)) <;> conv => whnf) | fail)
end Go.Fw
