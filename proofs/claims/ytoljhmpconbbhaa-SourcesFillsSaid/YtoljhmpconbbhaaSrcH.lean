/- The plain law of SourcesFall and SourcesBound: what a record leaves. -/
import Derived.Test.YtoljhmpconbbhaaSrcG
namespace Go.Fw
open Go.Proofs
theorem newer_asym {a b : Int} (h : newer a b = true) : newer b a = false := by
  cases h2 : newer b a with
  | false => rfl
  | true => rw [newer_iff] at h h2; omega
theorem cmpD_self (d : Dis) : cmpD d d = 0 := if_pos rfl
theorem cmpD_lt {a b : Dis} : cmpD a b = -1 ↔ a ≠ b ∧ (newer a.seq b.seq = true ∨ (a.seq = b.seq ∧ a.metric < b.metric)) := by
  unfold cmpD
  split
  · simp_all
  · split <;> simp_all
theorem cmpD_asym {a b : Dis} (h : cmpD a b = -1) : cmpD b a ≠ -1 := by
  rw [cmpD_lt] at h
  intro g
  rw [cmpD_lt] at g
  rcases h.2 with h1 | h1
  · have := newer_asym h1
    rcases g.2 with h2 | h2
    · rw [this] at h2; cases h2
    · rw [h2.1, newer_self] at h1; cases h1
  · rcases g.2 with h2 | h2
    · rw [h1.1, newer_self] at h2; cases h2
    · omega
/-- What was put in is found, as long as it is kept. -/
theorem rec_found {l : List Src} {now at_ : Int} {t : Dst} {d : Dis} (hg : recGood l t d) (hn : 0 ≤ now ∧ now ≤ 1000000) (hl : l.length < 256) (ha : now ≤ at_ ∧ at_ ≤ now + 19) :
    (recM l now t d).2 = 0 ∧ findS (recM l now t d).1 at_ t = (recD l now t d, true) := by
  have hv := recM_valid (l := l) (now := now) (t := t) (d := d)
  have e0 : (recM l now t d).2 = 0 := by
    unfold recM
    rw [if_pos hg, if_pos (by omega)]
    split
    · rfl
    · rw [if_neg (by omega)]
  refine ⟨e0, ?_⟩
  have hv := hv e0
  have hx : recX l now t d ∈ (recM l now t d).1 := by
    unfold recM
    rw [if_pos hg, if_pos (by omega)]
    split
    · rename_i hf
      have := ((fndK_iff cmpT_ok).1 hf).1
      exact List.mem_set this _
    · rw [if_neg (by omega)]
      simp
  generalize (recM l now t d).1 = m at *
  obtain ⟨i, hi, e⟩ := List.getElem_of_mem hx
  rw [← gt_eq hi] at e
  have ek : (gt m i).to = t := by rw [e]; rfl
  have hat : i = atS m t := key_other cmpT_ok hv hi ek
  have hf : fndS m t = true := (fndK_iff cmpT_ok).2 ⟨by show atS m t < _; omega, by show (gt m (atS m t)).to = t; rw [← hat]; exact ek⟩
  have hu : (gt m (atS m t)).upto > at_ := by
    rw [← hat, e]
    show min (now + 20) 1099511627776 > at_
    omega
  rw [findS, if_pos ⟨hv, by omega, by omega⟩, find_key hv, if_pos ⟨hf, hu⟩]
  rw [← hat, e]
  rfl
/-- Who was there before. -/
theorem find_rec {l : List Src} {now : Int} {t : Dst} {d : Dis} (hv : validS l = true) (hn : 0 ≤ now ∧ now ≤ 1099511627776) :
    recD l now t d = if (findS l now t).2 = true then lowD d (findS l now t).1 else d := by
  have e : findS l now t = if fndS l t = true ∧ (gt l (atS l t)).upto > now then ((gt l (atS l t)).best, true) else (dis0, false) := by
    rw [findS, if_pos ⟨hv, hn⟩, find_key hv]
    by_cases hc : fndS l t = true ∧ (gt l (atS l t)).upto > now
    · rw [if_pos hc, if_pos hc]
    · rw [if_neg hc, if_neg hc]
  rw [e]
  unfold recD
  by_cases hc : fndS l t = true ∧ (gt l (atS l t)).upto > now
  · rw [if_pos hc, if_pos hc]; rfl
  · rw [if_neg hc, if_neg hc]; rfl
theorem lowD_not {d b : Dis} : cmpD d (lowD d b) ≠ -1 ∧ cmpD b (lowD d b) ≠ -1 := by
  unfold lowD
  split
  · rename_i h
    exact ⟨by rw [cmpD_self]; omega, cmpD_asym h⟩
  · rename_i h
    exact ⟨h, by rw [cmpD_self]; omega⟩
theorem lowD_or (d b : Dis) : lowD d b = d ∨ lowD d b = b := by unfold lowD; split; exact .inl rfl; exact .inr rfl
/-- What is not better than what was announced is not better than what is kept. -/
theorem worse_not {d b w : Dis} (hs : w.seq = d.seq) (hm : d.metric ≤ w.metric) (h : cmpD d b ≠ -1) : cmpD w b ≠ -1 := by
  rw [Ne, cmpD_lt] at h ⊢
  rintro ⟨_, g⟩
  apply h
  rcases g with g | g
  · rw [hs] at g
    exact ⟨fun e => (by rw [e, newer_self] at g; cases g), .inl g⟩
  · exact ⟨fun e => (by rw [e] at hm; omega), .inr ⟨by rw [← hs]; exact g.1, by omega⟩⟩
theorem older_not {d b o : Dis} (hd : 0 ≤ d.seq ∧ d.seq ≤ 99) (ho : o.seq = (d.seq - 1) % 65536) (hb : nearS b.seq ∨ b = d) (h : cmpD d b ≠ -1) : cmpD o b ≠ -1 := by
  rw [Ne, cmpD_lt] at h ⊢
  rintro ⟨_, g⟩
  rcases hb with hb | rfl
  · apply h
    have key : newer d.seq b.seq = true := by
      rw [newer_iff] at *
      unfold nearS at hb
      rcases g with g | g
      · omega
      · omega
    exact ⟨fun e => (by rw [e, newer_self] at key; cases key), .inl key⟩
  · rw [newer_iff] at g
    omega
end Go.Fw
