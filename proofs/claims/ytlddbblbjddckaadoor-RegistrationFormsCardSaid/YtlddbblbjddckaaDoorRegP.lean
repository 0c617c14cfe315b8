/- Registration: plain law. -/
import Derived.Test.YtlddbblbjddckaaDoorRegA
namespace Go.Fw
open Go.Proofs
set_option maxHeartbeats 4000000
theorem cmpIP_zero' {a b : IP} : cmpIP a b = 0 ↔ a = b := ⟨cmpIP_zero, fun h => by rw [h, cmpIP_refl]⟩
theorem cmpIP_ok : CmpOK cmpIP := ⟨cmpIP_zero', cmpIP_anti, cmpIP_trans⟩
def isT (t : Int) : Prop := 0 ≤ t ∧ t ≤ 1099511627776
instance (t : Int) : Decidable (isT t) := inferInstanceAs (Decidable (_ ∧ _))
def regOK (r : Reg) : Bool := !decide (gt r.ip.1 0 = 255) && (oneA r.link && decide ((r.state = 1 ∨ r.state = 2) ∧ isT r.upto))
theorem regOK_iff {r : Reg} : regOK r = true ↔ gt r.ip.1 0 ≠ 255 ∧ oneA r.link = true ∧ (r.state = 1 ∨ r.state = 2) ∧ 0 ≤ r.upto ∧ r.upto ≤ 1099511627776 := by
  rw [regOK, Bool.and_eq_true, Bool.and_eq_true, decide_eq_true_eq, Bool.not_eq_true', decide_eq_false_iff_not]
  exact Iff.rfl
abbrev validR (l : List Reg) : Bool := okL 16 regOK cmpIP Reg.ip l
abbrev atR (l : List Reg) (a : IP) : Nat := atK cmpIP Reg.ip l a
abbrev fndR (l : List Reg) (a : IP) : Bool := fndK cmpIP Reg.ip l a
/-- registration.Newer -/
def newerC (a b : Int) : Bool :=
  if a ≥ 128 ∧ b ≥ 128 then decide (a > b ∧ a - b ≤ 16)
  else if a < 128 ∧ b < 128 then decide (1 ≤ (a - b + 128).tmod 128 ∧ (a - b + 128).tmod 128 ≤ 16)
  else if a < 128 then decide (a + 256 - b ≤ 16)
  else decide (b + 256 - a > 16)
def incC (a : Int) : Int := if a = 127 ∨ a = 255 then 0 else a + 1
/-- The entries that last. -/
def curR (l : List Reg) (now : Int) : List Reg := l.filter fun r => decide (r.upto > now)
def expM (l : List Reg) (now : Int) : List Reg × Int := if validR l = true then (if isT now then (curR l now, 0) else ([], 2)) else ([], 1)
def newR (a : IP) (o : Own) (k : Adr) (now : Int) : Reg := ⟨a, o.eui, o.seq, k, 1, min (now + o.life) 1099511627776⟩
def setR (r : Reg) (o : Own) (k : Adr) (now : Int) : Reg := ⟨r.ip, r.eui, o.seq, k, r.state, min (now + o.life) 1099511627776⟩
def delR (l : List Reg) (i : Nat) : List Reg := l.take i ++ l.drop (i + 1)
def insR (l : List Reg) (x : Reg) : List Reg := l.take (atR l x.ip) ++ [x] ++ l.drop (atR l x.ip)
/-- What a request does to the entries that last: the table, the status. -/
def askR (c : List Reg) (a : IP) (o : Own) (k : Adr) (now : Int) : List Reg × Int :=
  if fndR c a = true then
    (if (gt c (atR c a)).eui ≠ o.eui then (c, 1)
    else if (gt c (atR c a)).seq ≠ o.seq ∧ newerC o.seq (gt c (atR c a)).seq = false then (c, 3)
    else if o.life = 0 then (delR c (atR c a), 0)
    else (c.set (atR c a) (setR (gt c (atR c a)) o k now), 0))
  else if o.life = 0 then (c, 0)
  else if c.length ≥ 16 then (c, 2)
  else (insR c (newR a o k now), 0)
def askGood (l : List Reg) (a : IP) (k : Adr) : Prop := validR l = true ∧ gt a.1 0 ≠ 255 ∧ oneA k = true
instance (l : List Reg) (a : IP) (k : Adr) : Decidable (askGood l a k) := inferInstanceAs (Decidable (_ ∧ _))
/-- registration.Register: the table, the status, the error -/
def regM (l : List Reg) (a : IP) (o : Own) (k : Adr) (now : Int) : List Reg × Int × Int :=
  if askGood l a k then (if isT now then ((askR (curR l now) a o k now).1, (askR (curR l now) a o k now).2, 0) else ([], 0, 2)) else ([], 0, 1)
/-- registration.Confirm: the table, whether an entry has changed, the error -/
def conR (c : List Reg) (a : IP) (who status : Int) : List Reg × Bool :=
  if fndR c a = true ∧ (gt c (atR c a)).eui = who ∧ (gt c (atR c a)).state = 1 then
    (if status ≠ 0 then (delR c (atR c a), true)
    else (c.set (atR c a) ⟨(gt c (atR c a)).ip, (gt c (atR c a)).eui, (gt c (atR c a)).seq, (gt c (atR c a)).link, 2, (gt c (atR c a)).upto⟩, true))
  else (c, false)
def conM (l : List Reg) (a : IP) (who status now : Int) : List Reg × Bool × Int :=
  if validR l = true then (if isT now then ((conR (curR l now) a who status).1, (conR (curR l now) a who status).2, 0) else ([], false, 2)) else ([], false, 1)
/-- registration.Lookup -/
def lukM (l : List Reg) (a : IP) (now : Int) : Reg × Bool :=
  if validR l = true ∧ isT now ∧ fndR (curR l now) a = true ∧ (gt (curR l now) (atR (curR l now) a)).state = 2 then (gt (curR l now) (atR (curR l now) a), true) else (reg0, false)
theorem regOK_of {l : List Reg} {i : Nat} (h : validR l = true) (hi : i < l.length) : regOK (gt l i) = true := okL_ok h hi
theorem curR_valid {l : List Reg} {now : Int} (h : validR l = true) : validR (curR l now) = true := okL_sub cmpIP_ok h List.filter_sublist
theorem curR_len (l : List Reg) (now : Int) : (curR l now).length ≤ l.length := List.length_filter_le _ _
theorem curR_snoc {r : List Reg} {now : Int} {k : Nat} (hk : k < r.length) : curR (r.take (k + 1)) now = curR (r.take k) now ++ if (gt r k).upto > now then [gt r k] else [] := by
  rw [curR, filter_snoc hk]
  congr 1
  by_cases h : (gt r k).upto > now <;> simp [h]
theorem delR_sub (l : List Reg) (i : Nat) : (delR l i).Sublist l := by
  have h := List.take_append_drop i l
  conv => rhs; rw [← h]
  exact List.Sublist.append (List.Sublist.refl _) (List.drop_sublist_drop_left l (Nat.le_succ i))
theorem delR_len {l : List Reg} {i : Nat} (hi : i < l.length) : (delR l i).length = l.length - 1 := by simp [delR]; omega
theorem insR_len (l : List Reg) (x : Reg) : (insR l x).length = l.length + 1 := by
  have : atR l x.ip ≤ l.length := atK_le l x.ip
  simp [insR]; omega
def seqR (l : List Reg) : Prop := ∀ r ∈ l, 0 ≤ r.seq ∧ r.seq ≤ 255
structure OwnOK (o : Own) : Prop where
  seq : 0 ≤ o.seq ∧ o.seq ≤ 255
  life : 0 ≤ o.life ∧ o.life ≤ 65535
theorem seqR_sub {l m : List Reg} (h : seqR l) (hs : m.Sublist l) : seqR m := fun r hr => h r (hs.subset hr)
theorem seqR_cur {l : List Reg} {now : Int} (h : seqR l) : seqR (curR l now) := seqR_sub h List.filter_sublist
theorem seqR_gt {l : List Reg} {i : Nat} (h : seqR l) (hi : i < l.length) : 0 ≤ (gt l i).seq ∧ (gt l i).seq ≤ 255 := h _ (gt_mem hi)
theorem askR_len {c : List Reg} {a : IP} {o : Own} {k : Adr} {now : Int} : (askR c a o k now).1.length ≤ c.length + 1 := by
  unfold askR
  repeat' split
  all_goals first | (simp; done) | (have := (delR_sub c (atR c a)).length_le; dsimp only; omega) | (dsimp only; rw [insR_len]; exact Nat.le_refl _)
theorem regM_len {l : List Reg} {a : IP} {o : Own} {k : Adr} {now : Int} : (regM l a o k now).1.length ≤ 1000000 := by
  by_cases hg : askGood l a k
  · have h0 := okL_len hg.1
    have h1 := curR_len l now
    have h2 := askR_len (c := curR l now) (a := a) (o := o) (k := k) (now := now)
    unfold regM
    repeat' split
    all_goals first | (simp; done) | (dsimp only; omega)
  · rw [regM, if_neg hg]; simp
theorem conM_len {l : List Reg} {a : IP} {who status now : Int} : (conM l a who status now).1.length ≤ 1000000 := by
  by_cases hg : validR l = true
  · have h0 := okL_len hg
    have h1 := curR_len l now
    have h2 : (conR (curR l now) a who status).1.length ≤ (curR l now).length := by
      unfold conR
      repeat' split
      all_goals first | (simp; done) | (exact (delR_sub _ _).length_le)
    unfold conM
    repeat' split
    all_goals first | (simp; done) | (dsimp only; omega)
  · rw [conM, if_neg hg]; simp
theorem expM_len {l : List Reg} {now : Int} : (expM l now).1.length ≤ 1000000 := by
  by_cases hg : validR l = true
  · have h0 := okL_len hg
    have h1 := curR_len l now
    unfold expM
    repeat' split
    all_goals first | (simp; done) | (dsimp only; omega)
  · rw [expM, if_neg hg]; simp
end Go.Fw
