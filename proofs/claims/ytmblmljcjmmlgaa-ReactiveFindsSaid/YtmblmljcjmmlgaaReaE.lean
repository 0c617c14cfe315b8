/- Reactive, plain law: what is computed stays valid. -/
import Derived.Test.YtmblmljcjmmlgaaReaD
namespace Go.Fw
set_option maxRecDepth 4000
open Go.Proofs
set_option maxHeartbeats 4000000
section
variable {α : Type} [Inhabited α] {κ : α → Int} {n : Nat} {ok : α → Bool}
theorem okL_iff_pw {l : List α} : okL n ok cmpI κ l = true ↔ l.length ≤ n ∧ (∀ x ∈ l, ok x = true) ∧ l.Pairwise fun a b => κ a < κ b := by
  constructor
  · intro h
    refine ⟨okL_len h, fun x hx => ?_, ?_⟩
    · obtain ⟨i, hi, rfl⟩ := List.getElem_of_mem hx
      rw [← gt_eq hi]
      exact okL_ok h hi
    · rw [List.pairwise_iff_getElem]
      intro i j hi hj hij
      rw [← gt_eq hi, ← gt_eq hj]
      exact cmpI_lo.1 (okL_lt cmpI_ok2 h hij hj)
  · rintro ⟨h1, h2, h3⟩
    rw [List.pairwise_iff_getElem] at h3
    symm
    refine okL_tt h1 fun i hi => ⟨h2 _ (gt_mem hi), fun h0 => ?_⟩
    rw [gt_eq (by omega), gt_eq hi]
    exact cmpI_lo.2 (h3 _ _ (by omega) hi (by omega))
theorem okL_fm {β : Type} {l : List α} {f : α → Option α} (h : okL n ok cmpI κ l = true) (hf : ∀ x ∈ l, ∀ y, f x = some y → κ y = κ x ∧ (ok x = true → ok y = true)) : okL n ok cmpI κ (l.filterMap f) = true := by
  obtain ⟨h1, h2, h3⟩ := okL_iff_pw.1 h
  refine okL_iff_pw.2 ⟨Nat.le_trans (List.length_filterMap_le _ _) h1, fun y hy => ?_, ?_⟩
  · obtain ⟨x, hx, e⟩ := List.mem_filterMap.1 hy
    exact (hf x hx y e).2 (h2 x hx)
  · rw [List.pairwise_filterMap]
    refine h3.imp_of_mem fun {a b} ha hb hab x hx y hy => ?_
    have e1 := (hf a ha x hx).1
    have e2 := (hf b hb y hy).1
    omega
theorem okL_mapk {l : List α} {f : α → α} (h : okL n ok cmpI κ l = true) (hf : ∀ x ∈ l, κ (f x) = κ x ∧ (ok x = true → ok (f x) = true)) : okL n ok cmpI κ (l.map f) = true := by
  have := okL_fm (β := α) (f := fun x => some (f x)) h fun x hx y e => by cases e; exact hf x hx
  rwa [List.filterMap_eq_map'] at this
end
/-- Keys are no negative numbers; the state is valid. -/
structure ReaV (r : Rea) : Prop where
  p : ∀ x ∈ r.paths, 0 ≤ x.to
  d : ∀ x ∈ r.srch, 0 ≤ x.to
  s : ∀ x ∈ r.seen, 0 ≤ x.to
  v : validX r = true
theorem validX_iff {r : Rea} : validX r = true ↔ r.self ≠ 0 ∧ okPs r.self r.paths = true ∧ okDs r.self r.srch = true ∧ okSs r.self r.seen = true := by
  simp only [validX, Bool.and_eq_true, bne_iff_ne, ne_eq]
theorem ReaV.iff {r : Rea} (h : ReaV r) : r.self ≠ 0 ∧ okPs r.self r.paths = true ∧ okDs r.self r.srch = true ∧ okSs r.self r.seen = true := validX_iff.1 h.v
theorem ReaV.ok {r : Rea} (h : ReaV r) : ReaOK r := by
  obtain ⟨_, h1, h2, h3⟩ := h.iff
  exact ⟨h.p, h.d, h.s, Nat.le_trans (okL_len h1) (by omega), Nat.le_trans (okL_len h2) (by omega), Nat.le_trans (okL_len h3) (by omega)⟩
theorem ReaV.of {r : Rea} (h : ReaOK r) (v : validX r = true) : ReaV r := ⟨h.p, h.d, h.s, v⟩
theorem ReaV.sp {r : Rea} (h : ReaV r) : srtP r.paths := okL_srt h.iff.2.1
theorem ReaV.ss {r : Rea} (h : ReaV r) : srtP r.seen := okL_srt h.iff.2.2.2
theorem ReaV.paths {r : Rea} (h : ReaV r) {l : List Pth} (hl : okPs r.self l = true) (hk : ∀ x ∈ l, 0 ≤ x.to) : ReaV { r with paths := l } :=
  ⟨hk, h.d, h.s, by obtain ⟨a, b, c, e⟩ := h.iff; exact validX_iff.2 ⟨a, hl, c, e⟩⟩
theorem ReaV.srch {r : Rea} (h : ReaV r) {l : List Dsc} (hl : okDs r.self l = true) (hk : ∀ x ∈ l, 0 ≤ x.to) : ReaV { r with srch := l } :=
  ⟨h.p, hk, h.s, by obtain ⟨a, b, c, e⟩ := h.iff; exact validX_iff.2 ⟨a, b, hl, e⟩⟩
theorem ReaV.seen {r : Rea} (h : ReaV r) {l : List Pth} (hl : okSs r.self l = true) (hk : ∀ x ∈ l, 0 ≤ x.to) : ReaV { r with seen := l } :=
  ⟨h.p, h.d, hk, by obtain ⟨a, b, c, e⟩ := h.iff; exact validX_iff.2 ⟨a, b, c, hl⟩⟩
theorem ReaV.num {r : Rea} (h : ReaV r) (n : Int) : ReaV { r with num := n } := ⟨h.p, h.d, h.s, h.v⟩
theorem putP_mem {l : List Pth} {x y : Pth} (h : x ∈ putP l y) : x ∈ l ∨ x = y := by
  unfold putP at h
  split at h
  · exact List.mem_or_eq_of_mem_set h
  · simp only [List.mem_append, List.mem_singleton] at h
    rcases h with (h | h) | h
    · exact .inl (List.mem_of_mem_take h)
    · exact .inr h
    · exact .inl (List.mem_of_mem_drop h)
theorem putP_ok {ok : Pth → Bool} {l : List Pth} {x : Pth} (h : okL 64 ok cmpI Pth.to l = true) (hx : ok x = true) (hl : fndP l x.to = true ∨ l.length < 64) : okL 64 ok cmpI Pth.to (putP l x) = true := by
  unfold putP
  cases hf : fndP l x.to
  · rw [hf] at hl
    exact okL_ins cmpI_ok2 h hf hx (by simpa using hl)
  · exact okL_set cmpI_ok2 h hf hx
theorem lat_isT {now : Int} (h : isT now) {d : Int} (hd : 0 ≤ d) : isT (lat now d) := by unfold lat; have := h; omega
theorem offM_rv {r : Rea} {now t nb : Int} {d : Dis} (h : ReaV r) (ht : t ≠ 0) (h0 : 0 ≤ t) (hn : isT now) (hb : nb ≠ 0) (hd : okM d.metric = true) : ReaV (offM r now t nb d).1 := by
  unfold offM
  split
  · exact h
  rename_i hA
  split
  · exact h
  split
  · exact h
  rename_i hC
  have hT := lat_isT hn (d := 20) (by omega)
  refine h.paths (putP_ok h.iff.2.1 (pathOK_iff.2 ⟨⟨ht, fun e => hA (.inl e)⟩, hb, hd, fun e => hA (.inr e), hT.1, hT.2⟩) ?_) fun x hx => ?_
  · show fndP r.paths t = true ∨ _
    cases hf : fndP r.paths t
    · rw [hf] at hC
      simp only [true_and] at hC
      exact .inr (by omega)
    · exact .inl rfl
  · rcases putP_mem hx with hx | rfl
    · exact h.p x hx
    · exact h0
theorem seeM_rv {r : Rea} {now o : Int} {d : Dis} (h : ReaV r) (ho : o ≠ 0) (h0 : 0 ≤ o) (hs : o ≠ r.self) (hn : isT now) (hd : okM d.metric = true) (hi : d.metric ≠ 65535) : ReaV (seeM r now o d).1 := by
  have hT := lat_isT hn (d := 20) (by omega)
  have hok := h.iff.2.2.2
  have hx : seenOK r.self (seeX now o d) = true := seenOK_iff.2 ⟨⟨ho, hs⟩, rfl, rfl, hd, hi, hT.1, hT.2⟩
  unfold seeM
  split
  · exact h
  split
  · rename_i hC
    have hlen := okL_len hok
    have hm := minP_lt (l := r.seen) (k := r.seen.length) (by omega) (Nat.le_refl _)
    refine h.seen (putP_ok (okL_sub cmpI_ok2 hok ?_) hx (.inr (by rw [delP_len hm]; omega))) fun x hx => ?_
    · rw [delP, ← List.eraseIdx_eq_take_drop_succ]
      exact List.eraseIdx_sublist _ _
    · rcases putP_mem hx with hx | rfl
      · exact h.s x (delP_mem hx)
      · exact h0
  · rename_i hC
    refine h.seen (putP_ok hok hx ?_) fun x hx => ?_
    · show fndP r.seen o = true ∨ _
      cases hf : fndP r.seen o
      · rw [hf] at hC
        simp only [true_and] at hC
        exact .inr (by omega)
      · exact .inl rfl
    · rcases putP_mem hx with hx | rfl
      · exact h.s x hx
      · exact h0
theorem offM_self {r : Rea} {now t nb : Int} {d : Dis} : (offM r now t nb d).1.self = r.self := by unfold offM; (repeat' split) <;> rfl
theorem seeM_self {r : Rea} {now o : Int} {d : Dis} : (seeM r now o d).1.self = r.self := by unfold seeM; (repeat' split) <;> rfl
theorem offM_num {r : Rea} {now t nb : Int} {d : Dis} : (offM r now t nb d).1.num = r.num := by unfold offM; (repeat' split) <;> rfl
theorem seeM_num {r : Rea} {now o : Int} {d : Dis} : (seeM r now o d).1.num = r.num := by unfold seeM; (repeat' split) <;> rfl
theorem offM_srch {r : Rea} {now t nb : Int} {d : Dis} : (offM r now t nb d).1.srch = r.srch := by unfold offM; (repeat' split) <;> rfl
theorem seeM_srch {r : Rea} {now o : Int} {d : Dis} : (seeM r now o d).1.srch = r.srch := by unfold seeM; (repeat' split) <;> rfl
theorem seeM_paths {r : Rea} {now o : Int} {d : Dis} : (seeM r now o d).1.paths = r.paths := by unfold seeM; (repeat' split) <;> rfl
theorem offM_seen {r : Rea} {now t nb : Int} {d : Dis} : (offM r now t nb d).1.seen = r.seen := by unfold offM; (repeat' split) <;> rfl
theorem offM_no {r : Rea} {now t nb : Int} {d : Dis} (h : (offM r now t nb d).2 = false) : (offM r now t nb d).1 = r := by
  revert h; unfold offM; repeat' split
  all_goals (intro h; first | rfl | cases h)
theorem seeM_no {r : Rea} {now o : Int} {d : Dis} (h : (seeM r now o d).2 = false) : (seeM r now o d).1 = r := by
  revert h; unfold seeM; repeat' split
  all_goals (intro h; first | rfl | cases h)
/-- What a message must be for a request to be heard. -/
structure ReqOK (r : Rea) (now nb : Int) (d : Dis) (m : Msg) : Prop where
  rv : ReaV r
  t : isT now
  nb : nb ≠ 0
  dm : okM d.metric = true
  di : d.metric ≠ 65535
theorem hReq_rv {r : Rea} {now nb : Int} {d : Dis} {m : Msg} (h : ReqOK r now nb d m) (ho : m.org ≠ 0) (h0 : 0 ≤ m.org) : ReaV (hReq r now nb d m).1 := by
  obtain ⟨h1, h2, h3, h4, h5⟩ := h
  unfold hReq
  split
  · exact h1
  rename_i hs
  have h6 := seeM_rv (d := d) h1 ho h0 hs h2 h4 h5
  have h7 := offM_rv (d := d) h6 ho h0 h2 h3 h4
  split
  · exact h1
  split
  · exact h7.num _
  split
  · exact h7
  · exact h7
theorem delD_ok {s : Int} {l : List Dsc} {t : Int} (h : okDs s l = true) : okDs s (delD l t) = true := by
  unfold delD
  split
  · refine okL_sub cmpI_ok2 h ?_
    rw [← List.eraseIdx_eq_take_drop_succ]
    exact List.eraseIdx_sublist _ _
  · exact h
theorem delD_mem {l : List Dsc} {t : Int} {x : Dsc} (h : x ∈ delD l t) : x ∈ l := by
  unfold delD at h
  split at h
  · rcases List.mem_append.1 h with h | h
    · exact List.mem_of_mem_take h
    · exact List.mem_of_mem_drop h
  · exact h
theorem hRep_rv {r : Rea} {now nb : Int} {d : Dis} {m : Msg} (h : ReqOK r now nb d m) (ho : m.to ≠ 0) (h0 : 0 ≤ m.to) : ReaV (hRep r now nb d m).1 := by
  obtain ⟨h1, h2, h3, h4, h5⟩ := h
  have h7 := offM_rv (d := d) h1 ho h0 h2 h3 h4
  unfold hRep
  split
  · exact h1
  split
  · refine h7.srch ?_ fun x hx => h1.d x (delD_mem hx)
    rw [offM_self]
    exact delD_ok h1.iff.2.2.1
  split
  · exact h7
  · exact h7
theorem pathOK_brk {s : Int} {p : Pth} {n : Int} : pathOK s (brk1 p n) = pathOK s p := rfl
theorem usbP_iff {l : List Pth} {now t : Int} : usbP l now t = true ↔ fndP l t = true ∧ now < (gt l (atP l t)).upto ∧ (gt l (atP l t)).brk = false := by
  simp [usbP, curP]; exact ⟨fun ⟨⟨a, b⟩, c⟩ => ⟨a, b, c⟩, fun ⟨a, b, c⟩ => ⟨⟨a, b⟩, c⟩⟩
theorem hErr_rv {r : Rea} {now nb : Int} {m : Msg} (h : ReaV r) : ReaV (hErr r now nb m).1 := by
  unfold hErr
  split
  · exact h
  rename_i hu
  split
  · exact h
  have hu : usbP r.paths now m.to = true := by
    cases hh : usbP r.paths now m.to
    · exact absurd (.inl hh) hu
    · rfl
  obtain ⟨hf, _, _⟩ := usbP_iff.1 hu
  obtain ⟨h1, h2⟩ := fndP_iff.1 hf
  have e : (brk1 (gt r.paths (atP r.paths m.to)) m.num).to = m.to := h2
  have hok := h.iff.2.1
  refine h.paths ?_ fun x hx => ?_
  · have := okL_set cmpI_ok2 hok (x := brk1 (gt r.paths (atP r.paths m.to)) m.num) (by rw [e]; exact hf) (by rw [pathOK_brk]; exact okL_ok hok h1)
    rw [e] at this
    exact this
  · rcases List.mem_or_eq_of_mem_set hx with hx | rfl
    · exact h.p x hx
    · rw [e]; rw [← h2]; exact h.p _ (gt_mem h1)
theorem addC_ok (a b : Int) : okM (addC a b) = true := by
  unfold addC
  split
  · rename_i h
    have h1 : 0 ≤ a ∧ a ≤ 65535 := of_decide_eq_true h.1
    have h2 : 0 ≤ b ∧ b ≤ 65535 := of_decide_eq_true h.2
    exact decide_eq_true (by omega)
  · exact decide_eq_true (by omega)
/-- A message's names are no negative numbers. -/
def MsgOK (m : Msg) : Prop := 0 ≤ m.org ∧ 0 ≤ m.to
theorem hearM_rv {r : Rea} {now nb cost : Int} {m : Msg} (h : ReaOK r) (hm : MsgOK m) (e : (hearM r now nb cost m).2.2 = 0) : ReaV (hearM r now nb cost m).1 := by
  unfold hearM at e ⊢
  by_cases h1 : validX r = true ∧ vMsg m = true ∧ nb ≠ 0 ∧ nb ≠ r.self
  · rw [if_pos h1] at e ⊢
    obtain ⟨hv, hM, hb, hs⟩ := h1
    have hr := ReaV.of h hv
    obtain ⟨m1, m2, m3, m4, m5⟩ := vMsg_iff.1 hM
    by_cases h2 : isT now ∧ 1 ≤ cost ∧ cost ≤ 65535
    · rw [if_pos h2] at e ⊢
      split
      · exact hErr_rv hr
      split
      · exact hr
      rename_i hk hi
      have hR : ReqOK r now nb ⟨m.num, addC m.cost cost⟩ m := ⟨hr, h2.1, hb, addC_ok _ _, hi⟩
      split
      · exact hReq_rv hR (by omega) hm.1
      · exact hRep_rv hR m1 hm.2
    · rw [if_neg h2] at e; cases e
  · rw [if_neg h1] at e; cases e
theorem insD_mem {l : List Dsc} {x y : Dsc} (h : x ∈ insD l y) : x ∈ l ∨ x = y := by
  simp only [insD, List.mem_append, List.mem_singleton] at h
  rcases h with (h | h) | h
  · exact .inl (List.mem_of_mem_take h)
  · exact .inr h
  · exact .inl (List.mem_of_mem_drop h)
theorem seekM_rv {r : Rea} {now t : Int} (h : ReaOK r) (h0 : 0 ≤ t) (e : (seekM r now t).2.2 = 0) : ReaV (seekM r now t).1 := by
  unfold seekM at e ⊢
  by_cases h1 : validX r = true ∧ t ≠ 0 ∧ t ≠ r.self
  · rw [if_pos h1] at e ⊢
    have hr := ReaV.of h h1.1
    by_cases h2 : isT now
    · rw [if_pos h2] at e ⊢
      split
      · exact hr
      rename_i hf
      split
      · rename_i h3; rw [if_neg hf, if_pos h3] at e; cases e
      rename_i h3
      have hT := lat_isT h2 (d := 8) (by omega)
      have hf2 : fndD r.srch t = false := by
        cases hh : fndD r.srch t
        · rfl
        · exact absurd (.inl hh) hf
      have hx : dscOK r.self ⟨t, 3, lat now 8⟩ = true := dscOK_iff.2 ⟨h1.2, by show 1 ≤ (3 : Int) ∧ (3 : Int) ≤ 3; omega, hT.1, hT.2⟩
      have o2 : okDs r.self (insD r.srch ⟨t, 3, lat now 8⟩) = true := okL_ins cmpI_ok2 hr.iff.2.2.1 hf2 hx (by omega)
      have k2 : ∀ x ∈ insD r.srch ⟨t, 3, lat now 8⟩, 0 ≤ x.to := fun x hx => by
        rcases insD_mem hx with hx | rfl
        · exact hr.d x hx
        · exact h0
      exact (hr.srch o2 k2).num _
    · rw [if_neg h2] at e; cases e
  · rw [if_neg h1] at e; cases e
theorem lostM_rv {r : Rea} {now nb : Int} (h : ReaOK r) (e : (lostM r now nb).2.2 = 0) : ReaV (lostM r now nb).1 := by
  unfold lostM at e ⊢
  by_cases h1 : validX r = true ∧ nb ≠ 0
  · rw [if_pos h1] at e ⊢
    have hr := ReaV.of h h1.1
    by_cases h2 : isT now
    · rw [if_pos h2]
      have key : ∀ p : Pth, (lostP now nb p).to = p.to := fun p => by unfold lostP; split <;> rfl
      refine hr.paths (okL_mapk hr.iff.2.1 fun x hx => ⟨key x, fun hx => ?_⟩) fun x hx => ?_
      · unfold lostP
        split
        · rw [pathOK_brk]; exact hx
        · exact hx
      · obtain ⟨y, hy, rfl⟩ := List.mem_map.1 hx
        rw [key]; exact hr.p y hy
    · rw [if_neg h2] at e; cases e
  · rw [if_neg h1] at e; cases e
def tickF (l : List Pth) (now : Int) (x : Dsc) : Option Dsc :=
  if now < x.again then some x else if x.left = 1 ∨ usbP l now x.to = true then none else some ⟨x.to, x.left - 1, lat now 8⟩
theorem foldl_srch {self now : Int} {l : List Pth} : ∀ (q : List Dsc) (s : TkS), (q.foldl (tickStep self l now) s).srch = s.srch ++ q.filterMap (tickF l now)
  | [], s => by simp
  | x :: q, s => by
    rw [List.foldl_cons, foldl_srch q, List.filterMap_cons]
    unfold tickStep tickF
    split
    · simp
    · split <;> simp
theorem tickS_srch (r : Rea) (now : Int) (k : Nat) : (tickS r now k).srch = (r.srch.take k).filterMap (tickF (liveP r.paths now) now) := by
  rw [tickS, foldl_srch, List.nil_append]
theorem tickM_rv {r : Rea} {now : Int} (h : ReaOK r) (e : (tickM r now).2.2 = 0) : ReaV (tickM r now).1 := by
  unfold tickM at e ⊢
  by_cases h1 : validX r = true
  · rw [if_pos h1] at e ⊢
    have hr := ReaV.of h h1
    obtain ⟨v1, v2, v3, v4⟩ := hr.iff
    by_cases h2 : isT now
    · rw [if_pos h2]
      rw [tickS_srch, List.take_length]
      have hT := lat_isT h2 (d := 8) (by omega)
      have key : ∀ x y, tickF (liveP r.paths now) now x = some y → y.to = x.to ∧ (dscOK r.self x = true → dscOK r.self y = true) := fun x y e => by
        unfold tickF at e
        split at e
        · cases e; exact ⟨rfl, id⟩
        · split at e
          · cases e
          · rename_i hh
            cases e
            refine ⟨rfl, fun hx => ?_⟩
            obtain ⟨a, b, c⟩ := dscOK_iff.1 hx
            have : x.left ≠ 1 := fun e => hh (.inl e)
            exact dscOK_iff.2 ⟨a, ⟨by show 1 ≤ x.left - 1; omega, by show x.left - 1 ≤ 3; omega⟩, hT.1, hT.2⟩
      have k1 : ∀ x ∈ liveP r.paths now, 0 ≤ x.to := fun x hx => hr.p x (List.mem_filter.1 hx).1
      have k3 : ∀ x ∈ liveP r.seen now, 0 ≤ x.to := fun x hx => hr.s x (List.mem_filter.1 hx).1
      have k2 : ∀ y ∈ r.srch.filterMap (tickF (liveP r.paths now) now), 0 ≤ y.to := fun y hy => by
        obtain ⟨x, hx, e⟩ := List.mem_filterMap.1 hy
        rw [(key x y e).1]
        exact hr.d x hx
      have o1 : okPs r.self (liveP r.paths now) = true := okL_sub cmpI_ok2 v2 List.filter_sublist
      have o3 : okSs r.self (liveP r.seen now) = true := okL_sub cmpI_ok2 v4 List.filter_sublist
      have o2 : okDs r.self (r.srch.filterMap (tickF (liveP r.paths now) now)) = true := okL_fm (β := Dsc) v3 fun x _ y e => key x y e
      generalize r.srch.filterMap (tickF (liveP r.paths now) now) = q at *
      generalize liveP r.paths now = pp at *
      generalize liveP r.seen now = ss at *
      dsimp only
      exact ⟨k1, k2, k3, validX_iff.2 ⟨v1, o1, o2, o3⟩⟩
    · rw [if_neg h2] at e; cases e
  · rw [if_neg h1] at e; cases e
end Go.Fw
