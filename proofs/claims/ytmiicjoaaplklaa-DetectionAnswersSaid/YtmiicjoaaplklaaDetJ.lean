/- What a request leaves of who owns an address. -/
import Derived.Test.YtmiicjoaaplklaaDetI
namespace Go.Fw
theorem find_ne {now : Int} {ip : IP} : ∀ {cs : List Clm}, (∀ k, k < cs.length → (gt cs k).ip ≠ ip) → cs.find? (ownP now ip) = none
  | [], _ => rfl
  | c :: l, h => by
    have h0 : c.ip ≠ ip := h 0 (by simp)
    rw [List.find?_cons, show ownP now ip c = false by simp [ownP, h0]]
    exact find_ne (cs := l) fun k hk => h (k + 1) (by simpa using hk)
theorem find_cur (r : List Clm) (now : Int) (ip : IP) : (cur r now).find? (ownP now ip) = r.find? (ownP now ip) := by
  rw [cur, List.find?_filter]
  congr 1
  funext c
  by_cases h1 : c.upto ≤ now
  · have : ¬ c.upto > now := by omega
    simp [ownP, h1, this]
  · have : c.upto > now := by omega
    simp [ownP, h1]
theorem mem_cur {r : List Clm} {now : Int} {k : Nat} (h : k < (cur r now).length) : (gt (cur r now) k).upto > now := by
  have := gt_mem h
  simp only [cur, List.mem_filter, Bool.not_eq_true', decide_eq_false_iff_not] at this
  simp only [cur] at *
  omega
/-- What is asked of a request's outcome. -/
structure Kept (r : List Clm) (now : Int) (ip : IP) (eui life : Int) (q : List Clm × Int × Int) : Prop where
  er : q.2.2 = 0
  ok : validR q.1 = true
  len : q.1.length ≤ r.length + 1
  had : (ownM r now ip).2 = true → (ownM r now ip).1 ≠ eui → q.2.1 = 1 ∧ ownM q.1 now ip = ownM r now ip
  new0 : (ownM r now ip).2 = false → q.2.1 = 0
  new1 : (ownM r now ip).2 = false → (ownM q.1 now ip).2 = decide (life > 0)
  new2 : (ownM r now ip).2 = false → (ownM q.1 now ip).2 = true → (ownM q.1 now ip).1 = eui
theorem kept {r : List Clm} {now : Int} {ip : IP} {eui seq life : Int} (hg : reqGood r now eui seq life) (hn : now ≤ 100000) (hl : r.length ≤ 60) : Kept r now ip eui life (reqM r now ip eui seq life) := by
  have hV : validR (reqM r now ip eui seq life).1 = true := reqM_valid r (by
    rw [reqM, if_pos hg]
    (repeat' split) <;> rfl)
  obtain ⟨hv, h1, h2, h3, h4⟩ := id hg
  have o1 : ∀ x : List Clm, validR x = true → ownM x now ip = (match x.find? (ownP now ip) with | some c => (c.eui, true) | none => (0, false)) := fun x hx => if_pos ⟨hx, h2⟩
  have hs := cur_pw hv now
  have hcl := cur_len r now
  have hm : ∀ k, k < (cur r now).length → (gt (cur r now) k).upto > now := fun k => mem_cur
  have hf := find_cur r now ip
  have hle := bsA_le (fun c : Clm => cmpIP c.ip ip) (cur r now)
  have oR := o1 r hv
  rw [← hf] at oR
  have oQ := o1 _ hV
  rw [reqM, if_pos hg] at hV oQ ⊢
  unfold reqAt reqFound at *
  generalize cur r now = cs at *
  have lo : ∀ k, k < bsA (fun c => cmpIP c.ip ip) cs → (gt cs k).ip ≠ ip := fun k => pw_lo hs
  have hi : ∀ k, bsA (fun c => cmpIP c.ip ip) cs < k → k < cs.length → (gt cs k).ip ≠ ip := fun k => pw_hi hs
  have hF : bsF (fun c => cmpIP c.ip ip) cs = (decide (bsA (fun c => cmpIP c.ip ip) cs < cs.length) && (cmpIP (gt cs (bsA (fun c => cmpIP c.ip ip) cs)).ip ip == 0)) := rfl
  generalize bsA (fun c => cmpIP c.ip ip) cs = a at *
  have hta : (cs.take a).find? (ownP now ip) = none := find_ne fun k hk => by
    rw [List.length_take] at hk
    rw [gt_take (by omega)]
    exact lo k (by omega)
  cases hb : bsF (fun c => cmpIP c.ip ip) cs
  · rw [hb] at hF hV oQ
    have hne : ∀ k, k < cs.length → (gt cs k).ip ≠ ip := fun k hk => by
      rcases Nat.lt_trichotomy k a with h | h | h
      · exact lo k h
      · subst h
        intro e
        rw [e, cmpIP_refl] at hF
        simp [hk] at hF
      · exact hi k h hk
    rw [find_ne hne] at oR
    simp only [Bool.false_eq_true, if_false] at hV oQ ⊢
    by_cases hz : life = 0
    · rw [if_pos hz] at hV oQ ⊢
      rw [find_ne hne] at oQ
      exact ⟨rfl, hV, by simp; omega, by rw [oR]; simp, fun _ => rfl, fun _ => by rw [oQ]; simp [hz], fun _ h => by rw [oQ] at h; cases h⟩
    · rw [if_neg hz, if_neg (by omega)] at hV oQ ⊢
      rw [List.append_assoc, List.find?_append, hta, List.singleton_append, List.find?_cons, show ownP now ip ⟨ip, eui, seq, now, min (now + life) 1099511627776⟩ = true by simp only [ownP, true_and, decide_eq_true_eq]; omega] at oQ
      exact ⟨rfl, hV, by simp; omega, by rw [oR]; simp, fun _ => rfl, fun _ => by dsimp only; rw [List.append_assoc, List.singleton_append, oQ]; simp; omega, fun _ _ => by dsimp only; rw [List.append_assoc, List.singleton_append, oQ]; rfl⟩
  · rw [hb] at hF hV oQ
    have hF := hF.symm
    simp only [Bool.and_eq_true, decide_eq_true_eq, beq_iff_eq] at hF
    obtain ⟨ha, he⟩ := hF
    have he := cmpIP_zero he
    have hfa : cs.find? (ownP now ip) = some (gt cs a) := by
      rw [cut3 ha, List.find?_append, hta, List.find?_cons, ← cut3 ha, show ownP now ip (gt cs a) = true by simp only [ownP, he, true_and, decide_eq_true_eq]; exact hm a ha]
      rfl
    rw [hfa] at oR
    simp only [if_true] at hV oQ ⊢
    by_cases c2 : (gt cs a).eui ≠ eui
    · rw [if_pos c2] at hV oQ ⊢
      rw [hfa] at oQ
      exact ⟨rfl, hV, by simp; omega, fun _ _ => ⟨rfl, by rw [oQ, oR]⟩, by rw [oR]; simp, by rw [oR]; simp, by rw [oR]; simp⟩
    · have hx : (ownM r now ip).1 ≠ eui → False := fun h => c2 (by rw [oR] at h; exact h)
      rw [if_neg c2] at hV oQ ⊢
      (repeat' split at hV) <;> rename_i c3 <;> (try rename_i c4)
      · rw [if_pos c3]
        exact ⟨rfl, hV, by simp; omega, fun _ h => (hx h).elim, by rw [oR]; simp, by rw [oR]; simp, by rw [oR]; simp⟩
      · rw [if_neg c4, if_pos c3]
        exact ⟨rfl, hV, by simp; omega, fun _ h => (hx h).elim, by rw [oR]; simp, by rw [oR]; simp, by rw [oR]; simp⟩
      · rw [if_neg c4, if_neg c3]
        exact ⟨rfl, hV, by simp; omega, fun _ h => (hx h).elim, by rw [oR]; simp, by rw [oR]; simp, by rw [oR]; simp⟩
end Go.Fw
