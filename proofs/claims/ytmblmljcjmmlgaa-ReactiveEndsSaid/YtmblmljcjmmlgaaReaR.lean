/- Reactive: what a message leaves of the paths. -/
import Derived.Test.YtmblmljcjmmlgaaReaP
namespace Go.Fw
open Go.Proofs
set_option maxHeartbeats 4000000
theorem newer_asym {a b : Int} (h : newer a b = true) : newer b a = false := by
  rw [Bool.eq_false_iff]
  rw [Ne, newer_iff]
  rw [newer_iff] at h
  omega
theorem cmpD_self (d : Dis) : cmpD d d = 0 := if_pos rfl
theorem cmpD_lt {a b : Dis} : cmpD a b = -1 ↔ a ≠ b ∧ (newer a.seq b.seq = true ∨ (a.seq = b.seq ∧ a.metric < b.metric)) := by
  unfold cmpD
  split <;> rename_i h
  · simp [h]
  · split <;> rename_i g <;> simp [h, g]
theorem cmpD_asym {a b : Dis} (h : cmpD a b = -1) : cmpD b a ≠ -1 := by
  rw [cmpD_lt] at h
  intro g
  rw [cmpD_lt] at g
  rcases h.2 with h2 | h2 <;> rcases g.2 with g2 | g2
  · rw [newer_asym h2] at g2; cases g2
  · rw [g2.1, newer_self] at h2; cases h2
  · rw [h2.1, newer_self] at g2; cases g2
  · omega
/-- The paths are as good as before, and current. -/
structure UpP (now : Int) (l l' : List Pth) : Prop where
  up : ∀ p ∈ l, ∃ q ∈ l', q.to = p.to ∧ cmpD p.own q.own ≠ -1
  cur : ∀ q ∈ l', now < q.upto
theorem UpP.refl {now : Int} {l : List Pth} (h : ∀ q ∈ l, now < q.upto) : UpP now l l := ⟨fun p hp => ⟨p, hp, rfl, by rw [cmpD_self]; omega⟩, h⟩
theorem curP_of {s now : Int} {l : List Pth} (hv : okPs s l = true) {q : Pth} (hq : q ∈ l) (hn : now < q.upto) : curP l now q.to = true ∧ gt l (atP l q.to) = q := by
  obtain ⟨i, hi, he⟩ := List.getElem_of_mem hq
  have hg : gt l i = q := by rw [gt_eq hi]; exact he
  have ha := key_other cmpI_ok2 hv (t := q.to) hi (by rw [hg])
  have hi2 : atP l q.to < l.length := by show atK cmpI Pth.to l q.to < _; rw [← ha]; exact hi
  have hg2 : gt l (atP l q.to) = q := by show gt l (atK cmpI Pth.to l q.to) = q; rw [← ha]; exact hg
  refine ⟨?_, hg2⟩
  unfold curP
  have hf : fndP l q.to = true := (fndK_iff cmpI_ok2).2 ⟨hi2, by rw [show gt l (atK cmpI Pth.to l q.to) = q from hg2]⟩
  rw [hg2, hf, decide_eq_true hn]; rfl
theorem putP_up {s now : Int} {l : List Pth} {x : Pth} (hv : okPs s l = true) (hc : ∀ q ∈ l, now < q.upto) (hx : now < x.upto) (h2 : fndP l x.to = true → cmpD (gt l (atP l x.to)).own x.own ≠ -1) : UpP now l (putP l x) := by
  refine ⟨fun p hp => ?_, fun q hq => ?_⟩
  · unfold putP
    by_cases hf : fndP l x.to = true
    · rw [if_pos hf]
      obtain ⟨h3, h4⟩ := (fndK_iff cmpI_ok2).1 hf
      by_cases he : p.to = x.to
      · have hg := (curP_of hv hp (hc p hp)).2
        rw [he] at hg
        refine ⟨x, List.mem_of_getElem? (i := atP l x.to) (by simp [h3]), he.symm, ?_⟩
        rw [← hg]; exact h2 hf
      · obtain ⟨i, hi, hpi⟩ := List.getElem_of_mem hp
        have hne : atP l x.to ≠ i := fun h => he (by rw [← hpi, ← gt_eq hi, ← h]; exact h4)
        exact ⟨p, List.mem_of_getElem? (i := i) (by rw [List.getElem?_set_ne hne]; rw [List.getElem?_eq_getElem hi, hpi]), rfl, by rw [cmpD_self]; omega⟩
    · rw [if_neg hf]
      refine ⟨p, ?_, rfl, by rw [cmpD_self]; omega⟩
      rw [← List.take_append_drop (atP l x.to) l] at hp
      simp only [List.mem_append, List.mem_singleton]
      rcases List.mem_append.1 hp with h | h
      · exact .inl (.inl h)
      · exact .inr h
  · rcases putP_mem hq with h | h
    · exact hc q h
    · rw [h]; exact hx
theorem offM_up {r : Rea} {now t nb : Int} {d : Dis} (hv : okPs r.self r.paths = true) (hc : ∀ q ∈ r.paths, now < q.upto) (hn : 0 ≤ now ∧ now < 1099511627776) : UpP now r.paths (offM r now t nb d).1.paths := by
  unfold offM
  split
  · exact .refl hc
  split
  · exact .refl hc
  rename_i h1 h2
  split
  · exact .refl hc
  refine putP_up hv hc (show now < lat now 20 by unfold lat; omega) fun hf => ?_
  obtain ⟨h3, h4⟩ := (fndK_iff cmpI_ok2).1 hf
  have hcur : curP r.paths now t = true := by
    unfold curP
    have hu : now < (gt r.paths (atP r.paths t)).upto := hc _ (gt_mem h3)
    rw [show fndP r.paths t = true from hf, decide_eq_true hu]; rfl
  show cmpD (gt r.paths (atP r.paths t)).own d ≠ -1
  by_cases hd : cmpD d (gt r.paths (atP r.paths t)).own = -1
  · exact cmpD_asym hd
  · by_cases hs : (gt r.paths (atP r.paths t)).own = d
    · rw [hs, cmpD_self]; omega
    · exact absurd ⟨hcur, hd, fun h => hs h.2.2⟩ h2
theorem hErr_up {r : Rea} {now nb : Int} {m : Msg} (hv : okPs r.self r.paths = true) (hc : ∀ q ∈ r.paths, now < q.upto) : UpP now r.paths (hErr r now nb m).1.paths := by
  unfold hErr
  split
  · exact .refl hc
  split
  · exact .refl hc
  rename_i h1 h2
  have hu : usbP r.paths now m.to = true := by
    cases h : usbP r.paths now m.to
    · exact absurd (.inl h) h1
    · rfl
  obtain ⟨hf, h5, h6⟩ := usbP_iff.1 hu
  obtain ⟨h3, h4⟩ := (fndK_iff cmpI_ok2).1 hf
  have e : r.paths.set (atP r.paths m.to) (brk1 (gt r.paths (atP r.paths m.to)) m.num) = putP r.paths (brk1 (gt r.paths (atP r.paths m.to)) m.num) := by
    have ht : (brk1 (gt r.paths (atP r.paths m.to)) m.num).to = m.to := h4
    unfold putP
    rw [ht, if_pos hf]
  show UpP now r.paths (r.paths.set (atP r.paths m.to) (brk1 (gt r.paths (atP r.paths m.to)) m.num))
  rw [e]
  have ht : (brk1 (gt r.paths (atP r.paths m.to)) m.num).to = m.to := h4
  refine putP_up hv hc (show now < (gt r.paths (atP r.paths m.to)).upto from h5) fun _ => ?_
  rw [ht]
  generalize gt r.paths (atP r.paths m.to) = p at *
  show cmpD p.own ⟨m.num, p.own.metric⟩ ≠ -1
  by_cases hq : m.num = p.own.seq
  · rw [hq]
    rw [show cmpD p.own ⟨p.own.seq, p.own.metric⟩ = 0 from cmpD_self p.own]; omega
  · have hnw : newer m.num p.own.seq = true := by
      cases h : newer m.num p.own.seq
      · exact absurd ⟨hq, h⟩ h2
      · rfl
    exact cmpD_asym (cmpD_lt.2 ⟨fun h => hq (by rw [← h]), .inl hnw⟩)
theorem hearM_up {r : Rea} {now nb cost : Int} {m : Msg} (hV : ReaV r) (hc : ∀ q ∈ r.paths, now < q.upto) (hn : 0 ≤ now ∧ now < 1099511627776) (h0 : (hearM r now nb cost m).2.2 = 0) : UpP now r.paths (hearM r now nb cost m).1.paths := by
  have hv := hV.iff.2.1
  revert h0
  unfold hearM
  split
  · split
    · intro _
      split
      · exact hErr_up hv hc
      split
      · exact .refl hc
      split
      · show UpP now r.paths (hReq r now nb ⟨m.num, addC m.cost cost⟩ m).1.paths
        generalize (⟨m.num, addC m.cost cost⟩ : Dis) = d
        have ho : UpP now r.paths (offM (seeM r now m.org d).1 now m.org nb d).1.paths := by
          have e := seeM_paths (r := r) (now := now) (o := m.org) (d := d)
          have e2 := seeM_self (r := r) (now := now) (o := m.org) (d := d)
          have := offM_up (r := (seeM r now m.org d).1) (now := now) (t := m.org) (nb := nb) (d := d) (by rw [e, e2]; exact hv) (by rw [e]; exact hc) hn
          rwa [e] at this
        unfold hReq
        repeat' split
        all_goals first | exact .refl hc | exact ho
      · show UpP now r.paths (hRep r now nb ⟨m.num, addC m.cost cost⟩ m).1.paths
        generalize (⟨m.num, addC m.cost cost⟩ : Dis) = d
        have ho := offM_up (t := m.to) (nb := nb) (d := d) hv hc hn
        unfold hRep
        repeat' split
        all_goals first | exact .refl hc | exact ho
    · intro h; cases h
  · intro h; cases h
theorem hearM_zero {r : Rea} {now nb cost : Int} {m : Msg} (hv : validX r = true) (hm : vMsg m = true) (hb : nb ≠ 0 ∧ nb ≠ r.self) (hn : isT now) (hc : 1 ≤ cost ∧ cost ≤ 65535) : (hearM r now nb cost m).2.2 = 0 := by
  unfold hearM
  rw [if_pos ⟨hv, hm, hb.1, hb.2⟩, if_pos ⟨hn, hc.1, hc.2⟩]
  repeat' split
  all_goals rfl
/-- What the law asks of a path. -/
theorem UpP.ask {s now : Int} {l l' : List Pth} (h : UpP now l l') (hv : okPs s l' = true) {p : Pth} (hp : p ∈ l) : curP l' now p.to = true ∧ cmpD p.own (gt l' (atP l' p.to)).own ≠ -1 := by
  obtain ⟨q, hq, ht, hc⟩ := h.up p hp
  obtain ⟨h1, h2⟩ := curP_of hv hq (h.cur q hq)
  rw [ht] at h1 h2
  exact ⟨h1, by rw [h2]; exact hc⟩
end Go.Fw
