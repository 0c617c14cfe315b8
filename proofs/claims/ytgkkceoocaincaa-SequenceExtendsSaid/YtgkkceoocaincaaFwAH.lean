/- The executor is sound: every operation. -/
import Derived.Test.YtgkkceoocaincaaFwAG
namespace Go.Fw
theorem okT_of {b : Bool} {K : Prop} (h : okT b K) : b = true ∧ K := by
  cases b
  · exact h.elim
  · exact ⟨rfl, h⟩
theorem list_one {α : Type} {l : List α} (h : 1 = l.length) : ∃ x, l = [x] := by
  rcases l with _ | ⟨x, _ | ⟨y, r⟩⟩
  · simp at h
  · exact ⟨x, rfl⟩
  · simp at h
theorem list_two {α : Type} {l : List α} (h : 2 = l.length) : ∃ x y, l = [x, y] := by
  rcases l with _ | ⟨x, _ | ⟨y, _ | ⟨z, r⟩⟩⟩
  · simp at h
  · simp at h
  · exact ⟨x, y, rfl⟩
  · simp at h
theorem lenOf_sound {s : SV} {K : Nat → Prop} (h : lenOf s K) : ∃ m, K m ∧ ∀ cx w v, RelV cx w s v → ∃ a0 cap, v = .slice a0 m cap := by
  unfold lenOf at h
  split at h
  · refine ⟨_, h, fun cx w v hr => ?_⟩
    have hr : RelC cx w _ [v] := hr
    cases hr <;> exact ⟨_, _, rfl⟩
  · refine ⟨_, h, fun cx w v hr => ?_⟩
    have hr : RelC cx w _ [v] := hr
    cases hr <;> exact ⟨_, _, rfl⟩
  · refine ⟨_, h, fun cx w v hr => ?_⟩
    have hr : RelC cx w _ [v] := hr
    cases hr <;> exact ⟨_, _, rfl⟩
  · refine ⟨_, h, fun cx w v hr => ?_⟩
    rw [relV_v hr]
    exact ⟨_, _, rfl⟩
  · exact h.elim

section
variable {P : Program} {TT : Nat → TI} {n : Sz} {e : List (Nat × SV)} {h : List OB} {K : Rec → Prop}
variable {dst : Option Nat} {ty : TypeId} {pos : String} {after : Array Edge} {guard : Option (Nat × Bool)}

theorem s_call {c : Call} (hT : TTok P TT) (hn : inFrame n dst = true) (hx : xOp P TT n ⟨dst, .call c, ty, pos, after, guard⟩ e h K) : Goal P ⟨dst, .call c, ty, pos, after, guard⟩ n e h K := by
  simp only [xOp] at hx
  obtain ⟨args, hl, hargs, hk⟩ := opds_sound hx
  split at hk
  · rename_i b hc
    unfold execBuiltin at hk
    split at hk
    · rename_i s
      obtain ⟨x, hx⟩ := list_one hl
      split at hk
      · rename_i t ats hat
        obtain ⟨hs, hk⟩ := okT_of hk
        obtain ⟨m, hk, hm⟩ := lenOf_sound hk
        exact ⟨_, s_len hT hn hc hx hat hs (hargs 0 x s (by rw [hx]; rfl) rfl) hm, hk⟩
      · exact hk.elim
    · rename_i s x
      obtain ⟨x1, x2, hx⟩ := list_two hl
      split at hk
      · rename_i t t' hat
        split at hk
        · rename_i E bytes z ht hti
          have ht := Nat.eq_of_beq_eq_true ht
          subst ht
          obtain ⟨_, hk⟩ := okT_of hk
          exact s_append (sx1 := s) (z := z) hT hn hc hx hat hti (hargs 0 x1 s (by rw [hx]; rfl) rfl) (hargs 1 x2 x (by rw [hx]; rfl) rfl) hk
        · exact hk.elim
      · exact hk.elim
    · obtain ⟨x1, x2, hx⟩ := list_two hl
      exact ⟨_, s_minmax false hn hc hx (hargs 0 x1 _ (by rw [hx]; rfl) rfl) (hargs 1 x2 _ (by rw [hx]; rfl) rfl), hk⟩
    · obtain ⟨x1, x2, hx⟩ := list_two hl
      exact ⟨_, s_minmax true hn hc hx (hargs 0 x1 _ (by rw [hx]; rfl) rfl) (hargs 1 x2 _ (by rw [hx]; rfl) rfl), hk⟩
    · exact hk.elim
  · rename_i f hc
    obtain ⟨s, hs, hk⟩ := opd_sound hk
    split at hk
    · obtain ⟨h1, hk⟩ := okT_of hk
      exact s_callf hn rfl hc hs h1 hl hargs hk
    · exact hk.elim
  · exact hk.elim

theorem xOp_sound {o : Oper} (hT : TTok P TT) (hn : inFrame n o.dst = true) (hx : xOp P TT n o e h K) : Goal P o n e h K := by
  obtain ⟨dst, op, ty, pos, after, guard⟩ := o
  cases op
  case move => exact s_move hn hx
  case assign => exact s_assign hn hx
  case pick => exact s_pick hn hx
  case alloc => exact s_alloc hT hn hx
  case box => exact s_box hn hx
  case build => exact s_build hT hn hx
  case buildSlice => exact s_buildSlice hT hn hx
  case load => exact s_load hT hn hx
  case store => exact s_store hT hn hx
  case nilCheck => exact s_nilCheck hn hx
  case binOp => exact s_binOp hT hn hx
  case unOp => exact s_unOp hn hx
  case convert => exact s_convert hT hn hx
  case makeFunc => exact s_makeFunc hn hx
  case makeSlice => exact s_makeSlice hT hn hx
  case slice => exact s_slice hT hn hx
  case fieldAddr => exact s_fieldAddr hT hn hx
  case field => exact s_field hT hn hx
  case indexAddr => exact s_indexAddr hT hn hx
  case index => exact s_index hT hn hx
  case extract => exact s_extract hn hx
  case call => exact s_call hT hn hx
  all_goals exact hx.elim
end
end Go.Fw
