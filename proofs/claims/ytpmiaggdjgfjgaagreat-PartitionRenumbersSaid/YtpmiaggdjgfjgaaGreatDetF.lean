/- Registries: detection.Request. -/
import Derived.Test.YtpmiaggdjgfjgaaGreatMrg

namespace Go.Fw
set_option maxRecDepth 4000
open Go.Proofs
set_option maxHeartbeats 4000000
theorem validR_pw {r : List Clm} (h : validR r = true) : r.Pairwise fun a b => cmpIP a.ip b.ip < 0 := by
  rw [validR, decide_eq_true_eq] at h
  rw [List.pairwise_iff_getElem]
  intro i j hi hj hij
  rw [← gt_eq hi, ← gt_eq hj]
  obtain ⟨d, rfl⟩ : ∃ d, j = i + 1 + d := ⟨j - (i + 1), by omega⟩
  clear hij
  induction d with
  | zero => exact (h.2 (i + 1) (by omega)).2 (by omega)
  | succ d ih => exact cmpIP_trans (ih (by omega)) ((h.2 (i + 1 + (d + 1)) (by omega)).2 (by omega))
theorem cur_pw {r : List Clm} (h : validR r = true) (now : Int) : (cur r now).Pairwise fun a b => cmpIP a.ip b.ip < 0 := (validR_pw h).filter _
theorem pw_gt {l : List Clm} (h : l.Pairwise fun a b => cmpIP a.ip b.ip < 0) {i j : Nat} (hij : i < j) (hj : j < l.length) : cmpIP (gt l i).ip (gt l j).ip < 0 := by
  rw [List.pairwise_iff_getElem] at h
  rw [gt_eq (by omega), gt_eq hj]
  exact h i j (by omega) hj hij
theorem pw_mono {l : List Clm} (h : l.Pairwise fun a b => cmpIP a.ip b.ip < 0) (ip : IP) : ∀ i j, i ≤ j → j < l.length → cmpIP (gt l j).ip ip < 0 → cmpIP (gt l i).ip ip < 0 := fun i j hij hj hc => by
  rcases Nat.lt_or_ge i j with h1 | h1
  · exact cmpIP_trans (pw_gt h h1 hj) hc
  · rw [show i = j by omega]; exact hc
/-- detection.Request: the registry, the status, the error -/
def reqGood (r : List Clm) (now eui seq life : Int) : Prop := validR r = true ∧ eui ≠ 0 ∧ (0 ≤ now ∧ now ≤ 1099511627776) ∧ (0 ≤ seq ∧ seq ≤ 1073741824) ∧ 0 ≤ life ∧ life ≤ 1099511627776
instance (r : List Clm) (now eui seq life : Int) : Decidable (reqGood r now eui seq life) := inferInstanceAs (Decidable (_ ∧ _))
def reqAt (r : List Clm) (now : Int) (ip : IP) : Nat := bsA (fun c => cmpIP c.ip ip) (cur r now)
def reqFound (r : List Clm) (now : Int) (ip : IP) : Bool := bsF (fun c => cmpIP c.ip ip) (cur r now)
def reqUpd (c : Clm) (now seq life : Int) : Clm := ⟨c.ip, c.eui, seq, c.since, max (min (now + life) 1099511627776) c.since⟩
def reqM (r : List Clm) (now : Int) (ip : IP) (eui seq life : Int) : List Clm × Int × Int :=
  if reqGood r now eui seq life then
    (if reqFound r now ip = true then
      (if (gt (cur r now) (reqAt r now ip)).eui ≠ eui then (cur r now, 1, 0)
      else if (gt (cur r now) (reqAt r now ip)).seq > seq then (cur r now, 3, 0)
      else if life = 0 then ((cur r now).take (reqAt r now ip) ++ (cur r now).drop (reqAt r now ip + 1), 0, 0)
      else ((cur r now).set (reqAt r now ip) (reqUpd (gt (cur r now) (reqAt r now ip)) now seq life), 0, 0))
    else if life = 0 then (cur r now, 0, 0)
    else if (cur r now).length ≥ 64 then (cur r now, 2, 0)
    else ((cur r now).take (reqAt r now ip) ++ [⟨ip, eui, seq, now, min (now + life) 1099511627776⟩] ++ (cur r now).drop (reqAt r now ip), 0, 0))
  else if validR r = true ∧ eui ≠ 0 then ([], 0, 2) else ([], 0, 1)
end Go.Fw

/- Registries: the reference's Request. -/
namespace Go.Fw
set_option maxRecDepth 4000
open Go.Proofs
set_option maxHeartbeats 4000000
structure RQ where
  out : List Clm
  st : Int
  kn : Bool
def stepR (now : Int) (ip : IP) (eui seq life : Int) (q : RQ) (c : Clm) : RQ :=
  if c.ip ≠ ip then ⟨q.out ++ [c], q.st, q.kn⟩
  else if c.eui ≠ eui then ⟨q.out ++ [c], 1, true⟩
  else if c.seq > seq then ⟨q.out ++ [c], 3, true⟩
  else if life = 0 then ⟨q.out, q.st, true⟩
  else ⟨q.out ++ [reqUpd c now seq life], q.st, true⟩
def foldR (now : Int) (ip : IP) (eui seq life : Int) (l : List Clm) : RQ := l.foldl (stepR now ip eui seq life) ⟨[], 0, false⟩
theorem foldR_step {now : Int} {ip : IP} {eui seq life : Int} {l : List Clm} {k : Nat} (hk : k < l.length) : foldR now ip eui seq life (l.take (k + 1)) = stepR now ip eui seq life (foldR now ip eui seq life (l.take k)) (gt l k) := by
  rw [foldR, take_gt hk, List.foldl_append]; rfl
theorem foldR_len (now : Int) (ip : IP) (eui seq life : Int) (l : List Clm) : (foldR now ip eui seq life l).out.length ≤ l.length := by
  have key : ∀ (l : List Clm) (q : RQ), (l.foldl (stepR now ip eui seq life) q).out.length ≤ q.out.length + l.length := by
    intro l
    induction l with
    | nil => intro q; simp
    | cons c l ih =>
      intro q
      have h1 := ih (stepR now ip eui seq life q c)
      have h2 : (stepR now ip eui seq life q c).out.length ≤ q.out.length + 1 := by
        unfold stepR
        (repeat' split) <;> simp
      simp only [List.foldl_cons, List.length_cons]
      omega
  have := key l ⟨[], 0, false⟩
  unfold foldR
  simpa using this
def refReqM (r : List Clm) (now : Int) (ip : IP) (eui seq life : Int) : List Clm × Int × Int :=
  if reqGood r now eui seq life then
    (if (foldR now ip eui seq life (cur r now)).kn = true ∨ life = 0 then ((foldR now ip eui seq life (cur r now)).out, (foldR now ip eui seq life (cur r now)).st, 0)
    else if (foldR now ip eui seq life (cur r now)).out.length = 64 then ((foldR now ip eui seq life (cur r now)).out, 2, 0)
    else (insM (foldR now ip eui seq life (cur r now)).out ⟨ip, eui, seq, now, min (now + life) 1099511627776⟩, 0, 0))
  else if validR r = true ∧ eui ≠ 0 then ([], 0, 2) else ([], 0, 1)
end Go.Fw

/- The plain law of Request: the program's and the reference's are one; what comes out is valid. -/
namespace Go.Fw
set_option maxRecDepth 4000
section
variable {now : Int} {ip : IP} {eui seq life : Int}
theorem fold_ne : ∀ (l : List Clm) (q : RQ), (∀ k, k < l.length → (gt l k).ip ≠ ip) → l.foldl (stepR now ip eui seq life) q = ⟨q.out ++ l, q.st, q.kn⟩
  | [], q, _ => by simp
  | c :: l, q, h => by
    have h0 : c.ip ≠ ip := h 0 (by simp)
    rw [List.foldl_cons, fold_ne l _ fun k hk => h (k + 1) (by simpa using hk), stepR, if_pos h0]
    simp
theorem pw_lo {cs : List Clm} (_ : cs.Pairwise fun a b => cmpIP a.ip b.ip < 0) {k : Nat} (hk : k < bsA (fun c => cmpIP c.ip ip) cs) : (gt cs k).ip ≠ ip := fun e => by
  have := bsA_lo hk
  rw [e, cmpIP_refl] at this
  omega
theorem pw_hi {cs : List Clm} (hs : cs.Pairwise fun a b => cmpIP a.ip b.ip < 0) {k : Nat} (hk : bsA (fun c => cmpIP c.ip ip) cs < k) (hl : k < cs.length) : (gt cs k).ip ≠ ip := fun e => by
  have h1 := bsA_hi (c := fun c : Clm => cmpIP c.ip ip) (l := cs) (by omega)
  have h2 := pw_gt hs hk hl
  rw [e] at h2
  omega
theorem reqM_eq (r : List Clm) : reqM r now ip eui seq life = refReqM r now ip eui seq life := by
  by_cases hg : reqGood r now eui seq life
  case neg => rw [reqM, refReqM, if_neg hg, if_neg hg]
  rw [reqM, refReqM, if_pos hg, if_pos hg]
  obtain ⟨hv, h1, h2, h3, h4⟩ := hg
  have hs := cur_pw hv now
  have hc64 : (cur r now).length ≤ 64 := by have := validR_len hv; have := cur_len r now; omega
  have hle := bsA_le (fun c : Clm => cmpIP c.ip ip) (cur r now)
  unfold reqAt reqFound
  generalize cur r now = cs at *
  have lo : ∀ k, k < bsA (fun c => cmpIP c.ip ip) cs → (gt cs k).ip ≠ ip := fun k => pw_lo hs
  have hi : ∀ k, bsA (fun c => cmpIP c.ip ip) cs < k → k < cs.length → (gt cs k).ip ≠ ip := fun k => pw_hi hs
  have loc : ∀ k, k < bsA (fun c => cmpIP c.ip ip) cs → cmpIP (gt cs k).ip ip < 0 := fun k => bsA_lo
  have hic : bsA (fun c => cmpIP c.ip ip) cs < cs.length → ¬ cmpIP (gt cs (bsA (fun c => cmpIP c.ip ip) cs)).ip ip < 0 := bsA_hi
  have hF : bsF (fun c => cmpIP c.ip ip) cs = (decide (bsA (fun c => cmpIP c.ip ip) cs < cs.length) && (cmpIP (gt cs (bsA (fun c => cmpIP c.ip ip) cs)).ip ip == 0)) := rfl
  generalize bsA (fun c => cmpIP c.ip ip) cs = a at *
  cases hf : bsF (fun c => cmpIP c.ip ip) cs
  · rw [hf] at hF
    have hne : ∀ k, k < cs.length → (gt cs k).ip ≠ ip := fun k hk => by
      rcases Nat.lt_trichotomy k a with h | h | h
      · exact lo k h
      · subst h
        intro e
        rw [e, cmpIP_refl] at hF
        simp [hk] at hF
      · exact hi k h hk
    have hq : foldR now ip eui seq life cs = ⟨cs, 0, false⟩ := by
      rw [foldR, fold_ne cs _ hne]; simp
    rw [hq]
    simp only [Bool.false_eq_true, if_false, false_or]
    by_cases hl : life = 0
    · rw [if_pos hl, if_pos hl]
    · rw [if_neg hl, if_neg hl]
      by_cases h64 : cs.length = 64
      · rw [if_pos (by omega), if_pos h64]
      · rw [if_neg (by omega), if_neg h64, insM]
        have hp : pos (insQ ⟨ip, eui, seq, now, min (now + life) 1099511627776⟩) cs = a := pos_eq hle (fun k hk => by
          have := loc k hk
          rw [cmpIP_anti] at this
          simp only [insQ, Bool.not_eq_true', decide_eq_false_iff_not]; omega) (fun ha => by
          have h5 := hic ha
          have h6 : cmpIP (gt cs a).ip ip ≠ 0 := fun h => hne a ha (cmpIP_zero h)
          rw [cmpIP_anti] at h5 h6
          simp only [insQ, Bool.not_eq_false', decide_eq_true_eq]; omega)
        rw [hp]
  · rw [hf] at hF
    have hF := hF.symm
    simp only [Bool.and_eq_true, decide_eq_true_eq, beq_iff_eq] at hF
    obtain ⟨ha, he⟩ := hF
    have he := cmpIP_zero he
    have e3 := cut3 ha
    have hq : ∀ q', stepR now ip eui seq life ⟨cs.take a, 0, false⟩ (gt cs a) = q' → foldR now ip eui seq life cs = ⟨q'.out ++ cs.drop (a + 1), q'.st, q'.kn⟩ := fun q' hq' => by
      have : foldR now ip eui seq life (cs.take a ++ gt cs a :: cs.drop (a + 1)) = ⟨q'.out ++ cs.drop (a + 1), q'.st, q'.kn⟩ := by
        rw [foldR, List.foldl_append, List.foldl_cons, fold_ne (cs.take a) _ (fun k hk => by
          rw [List.length_take] at hk
          rw [gt_take (by omega)]
          exact lo k (by omega)), List.nil_append, hq', fold_ne (cs.drop (a + 1)) _ (fun k hk => by
          rw [List.length_drop] at hk
          rw [gt_drop]
          exact hi _ (by omega) (by omega))]
      rwa [← e3] at this
    have e4 : cs.take a ++ [gt cs a] ++ cs.drop (a + 1) = cs := by
      rw [List.append_assoc, List.singleton_append]; exact e3.symm
    have hn : ¬ (gt cs a).ip ≠ ip := fun h => h he
    simp only [if_true]
    by_cases c2 : (gt cs a).eui ≠ eui
    · rw [if_pos c2, hq _ (by rw [stepR, if_neg hn, if_pos c2])]
      simp only [true_or, if_true, e4]
    · rw [if_neg c2]
      by_cases c3 : (gt cs a).seq > seq
      · rw [if_pos c3, hq _ (by rw [stepR, if_neg hn, if_neg c2, if_pos c3])]
        simp only [true_or, if_true, e4]
      · rw [if_neg c3]
        by_cases c4 : life = 0
        · rw [if_pos c4, hq _ (by rw [stepR, if_neg hn, if_neg c2, if_neg c3, if_pos c4])]
          simp only [true_or, if_true]
        · rw [if_neg c4, hq _ (by rw [stepR, if_neg hn, if_neg c2, if_neg c3, if_neg c4])]
          simp only [true_or, if_true]
          rw [List.set_eq_take_append_cons_drop, if_pos ha]
          simp
/-! ### What comes out is valid -/
theorem validR_mk {l : List Clm} (h1 : l.length ≤ 64) (h2 : ∀ c ∈ l, clmOK c = true) (h3 : l.Pairwise fun a b => cmpIP a.ip b.ip < 0) : validR l = true := by
  rw [validR, decide_eq_true_eq]
  exact ⟨h1, fun i hi => ⟨h2 _ (gt_mem hi), fun h0 => pw_gt h3 (by omega) hi⟩⟩
theorem validR_ok {l : List Clm} (h : validR l = true) : ∀ c ∈ l, clmOK c = true := fun c hc => by
  obtain ⟨i, hi, rfl⟩ := List.getElem_of_mem hc
  rw [validR, decide_eq_true_eq] at h
  rw [← gt_eq hi]; exact (h.2 i hi).1
theorem cur_valid {r : List Clm} (h : validR r = true) (now : Int) : validR (cur r now) = true :=
  validR_mk (by have := cur_len r now; have := validR_len h; omega) (fun c hc => validR_ok h c (List.mem_filter.1 hc).1) (cur_pw h now)
theorem reqM_valid (r : List Clm) (h0 : (reqM r now ip eui seq life).2.2 = 0) : validR (reqM r now ip eui seq life).1 = true := by
  by_cases hg : reqGood r now eui seq life
  case neg =>
    rw [reqM, if_neg hg] at h0
    split at h0 <;> simp at h0
  rw [reqM, if_pos hg]
  obtain ⟨hv, h1, h2, h3, h4⟩ := hg
  have hcv := cur_valid hv now
  have hle := bsA_le (fun c : Clm => cmpIP c.ip ip) (cur r now)
  unfold reqAt reqFound
  generalize cur r now = cs at *
  have hs := validR_pw hcv
  have hok := validR_ok hcv
  have h64 := validR_len hcv
  have hF : bsF (fun c => cmpIP c.ip ip) cs = (decide (bsA (fun c => cmpIP c.ip ip) cs < cs.length) && (cmpIP (gt cs (bsA (fun c => cmpIP c.ip ip) cs)).ip ip == 0)) := rfl
  have loc : ∀ k, k < bsA (fun c => cmpIP c.ip ip) cs → cmpIP (gt cs k).ip ip < 0 := fun k => bsA_lo
  have hic : bsA (fun c => cmpIP c.ip ip) cs < cs.length → ¬ cmpIP (gt cs (bsA (fun c => cmpIP c.ip ip) cs)).ip ip < 0 := bsA_hi
  generalize bsA (fun c => cmpIP c.ip ip) cs = a at *
  cases hf : bsF (fun c => cmpIP c.ip ip) cs
  · rw [hf] at hF
    simp only [Bool.false_eq_true, if_false]
    split
    · exact hcv
    · split
      · exact hcv
      · rename_i hfull
        refine validR_mk (by simp; omega) (fun c hc => ?_) ?_
        · simp only [List.mem_append, List.mem_singleton] at hc
          rcases hc with (hc | rfl) | hc
          · exact hok c (List.mem_of_mem_take hc)
          · simp only [clmOK, decide_eq_true_eq]; omega
          · exact hok c (List.mem_of_mem_drop hc)
        · rw [List.append_assoc, List.pairwise_append]
          refine ⟨hs.sublist (List.take_sublist _ _), ?_, ?_⟩
          · rw [List.singleton_append, List.pairwise_cons]
            refine ⟨fun b hb => ?_, hs.sublist (List.drop_sublist _ _)⟩
            obtain ⟨i, hi, rfl⟩ := List.getElem_of_mem hb
            rw [List.length_drop] at hi
            rw [← gt_eq (by rw [List.length_drop]; omega), gt_drop]
            have ha : a < cs.length := by omega
            have h5 := hic ha
            have h6 : cmpIP (gt cs a).ip ip ≠ 0 := fun h => by rw [h] at hF; simp [ha] at hF
            have h7 : cmpIP ip (gt cs a).ip < 0 := by rw [cmpIP_anti]; omega
            rcases Nat.eq_zero_or_pos i with h8 | h8
            · subst h8; exact h7
            · exact cmpIP_trans h7 (pw_gt hs (by omega) (by omega))
          · intro x hx b hb
            obtain ⟨i, hi, rfl⟩ := List.getElem_of_mem hx
            rw [List.length_take] at hi
            rw [← gt_eq (by rw [List.length_take]; omega), gt_take (by omega)]
            rw [List.singleton_append, List.mem_cons] at hb
            have h5 := loc i (by omega)
            rcases hb with rfl | hb
            · exact h5
            · obtain ⟨j, hj, rfl⟩ := List.getElem_of_mem hb
              rw [List.length_drop] at hj
              rw [← gt_eq (by rw [List.length_drop]; omega), gt_drop]
              exact pw_gt hs (by omega) (by omega)
  · rw [hf] at hF
    have hF := hF.symm
    simp only [Bool.and_eq_true, decide_eq_true_eq, beq_iff_eq] at hF
    obtain ⟨ha, he⟩ := hF
    have hg := hok _ (gt_mem ha)
    simp only [clmOK, decide_eq_true_eq] at hg
    simp only [if_true]
    split
    · exact hcv
    · split
      · exact hcv
      · split
        · have hsub : (cs.take a ++ cs.drop (a + 1)).Sublist cs := by
            rw [← List.eraseIdx_eq_take_drop_succ]; exact List.eraseIdx_sublist ..
          dsimp only
          exact validR_mk (by have := hsub.length_le; omega) (fun c hc => hok c (hsub.mem hc)) (hs.sublist hsub)
        · dsimp only
          have hu : clmOK (reqUpd (gt cs a) now seq life) = true := by
            rw [clmOK, decide_eq_true_eq]
            simp only [reqUpd]
            obtain ⟨g1, g2, g3, g4, g5, g6, g7, g8⟩ := hg
            refine ⟨g1, by omega, by omega, by omega, by omega, by omega, by omega, by omega⟩
          refine validR_mk (by simpa using h64) (fun c hc => ?_) ?_
          · rcases List.mem_or_eq_of_mem_set hc with hc | rfl
            · exact hok c hc
            · exact hu
          · have e : ∀ l : List Clm, (l.Pairwise fun a b => cmpIP a.ip b.ip < 0) ↔ (l.map Clm.ip).Pairwise fun a b => cmpIP a b < 0 := fun l => by rw [List.pairwise_map]
            rw [e] at hs ⊢
            have : (cs.set a (reqUpd (gt cs a) now seq life)).map Clm.ip = cs.map Clm.ip := by
              rw [List.map_set]
              apply List.ext_getElem?
              intro i
              rw [List.getElem?_set]
              split
              · rename_i h; subst h
                simp [ha, reqUpd, gt_eq ha]
              · rfl
            rw [this]; exact hs
end
end Go.Fw
