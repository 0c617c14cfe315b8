/- The executor is sound: calls of functions. -/
import Derived.Test.YtgkkceoocaincaaFwAF
namespace Go.Fw

mutual
theorem ren_noRef (g : Nat → Nat) : ∀ (s : SV), noRef s = true → ren g s = s
  | .v _, _ => rfl
  | .ba .., _ => rfl
  | .fs .., _ => rfl
  | .pf .., _ => rfl
  | .agg cs, h => by simp only [noRef] at h; simp only [ren, rens_noRef g cs h]
  | .clo _ cs, h => by simp only [noRef] at h; simp only [ren, rens_noRef g cs h]
  | .tup cs, h => by simp only [noRef] at h; simp only [ren, rens_noRef g cs h]
theorem rens_noRef (g : Nat → Nat) : ∀ (cs : List SV), noRefs cs = true → rens g cs = cs
  | [], _ => rfl
  | s :: r, h => by
    simp only [noRefs] at h
    split at h
    · rename_i h1
      simp only [rens, ren_noRef g s h1, rens_noRef g r h]
    · cases h
end
mutual
theorem noRef_ment (k : Nat) : ∀ (s : SV), noRef s = true → ment k s = false
  | .v _, _ => rfl
  | .ba .., _ => rfl
  | .fs .., _ => rfl
  | .pf .., _ => rfl
  | .agg cs, h => by simp only [noRef] at h; simp only [ment, noRefs_ments k cs h]
  | .clo _ cs, h => by simp only [noRef] at h; simp only [ment, noRefs_ments k cs h]
  | .tup cs, h => by simp only [noRef] at h; simp only [ment, noRefs_ments k cs h]
theorem noRefs_ments (k : Nat) : ∀ (cs : List SV), noRefs cs = true → ments k cs = false
  | [], _ => rfl
  | s :: r, h => by
    simp only [noRefs] at h
    split at h
    · rename_i h1
      simp only [ments, noRef_ment k s h1, noRefs_ments k r h]
    · cases h
end

theorem inHp_sound {h : List OB} : ∀ {ks : List Nat} {K : List OB → Prop}, inHp h ks K → ∃ hpi, K hpi ∧ hpi.length = ks.length ∧ ∀ (j k : Nat), ks[j]? = some k → ∃ s, nthB h k = some (OB.cells s) ∧ hpi[j]? = some (OB.cells s) ∧ noRef s = true
  | [], K, hk => ⟨[], hk, rfl, fun j k h => by simp at h⟩
  | k :: r, K, hk => by
    simp only [inHp] at hk
    split at hk
    · rename_i s hs
      split at hk
      · rename_i hn
        obtain ⟨l, h1, h2, h3⟩ := inHp_sound hk
        refine ⟨_, h1, by simp [h2], fun j k' hj => ?_⟩
        cases j with
        | zero => simp at hj; subst hj; exact ⟨s, hs, rfl, hn⟩
        | succ j => simp at hj; obtain ⟨s', h4, h5, h6⟩ := h3 j k' hj; exact ⟨s', h4, by simpa using h5, h6⟩
      · exact hk.elim
    · exact hk.elim

theorem RelVL.app {cx w l vs l' vs'} (h : RelVL cx w l vs) (h' : RelVL cx w l' vs') : RelVL cx w (Fw.app l l') (vs ++ vs') := by
  induction h with
  | nil => exact h'
  | cons h1 _ ih => exact .cons h1 ih
theorem relVL_of {cx w} : ∀ {l : List SV} {vs : List Value}, vs.length = l.length → (∀ (i : Nat) s x, l[i]? = some s → vs[i]? = some x → RelV1 cx w s x) → RelVL cx w l vs
  | [], [], _, _ => .nil
  | [], _ :: _, h, _ => by simp at h
  | _ :: _, [], h, _ => by simp at h
  | s :: r, x :: xs, h, hr => .cons (hr 0 s x rfl rfl) (relVL_of (by simpa using h) fun i s x h1 h2 => hr (i + 1) s x (by simpa using h1) (by simpa using h2))

section
variable {P : Program} {TT : Nat → TI} {n : Sz} {e : List (Nat × SV)} {h : List OB} {K : Rec → Prop}
variable {dst : Option Nat} {ty : TypeId} {pos : String} {after : Array Edge} {guard : Option (Nat × Bool)}

theorem run_callFunc {f : FuncId} {args : Array Value} {w : World} (hE : Enters P f) : (callFunc f args).run P w = .ok (.enter f args) w := by
  obtain ⟨fn, h1, h2, h3⟩ := hE
  have h2' : ¬ fn.name = "runtime.NumGoroutine" := by simpa using h2
  have h3' : ¬ fn.body = none := by cases hb : fn.body <;> simp_all
  simp [callFunc, h1, h2', h3']

theorem s_callf {o : Oper} {c : Call} {x : Operand} {f : FuncId} {caps args : List SV} (hn : inFrame n o.dst = true) (ho : o.op = .call c) (hc : c.callee = .value x) (hx : OpdR (lk e) x (.clo f caps))
    (hsc : caps.all scal = true) (hl : args.length = c.args.toList.length) (hargs : ∀ (i : Nat) x s, c.args.toList[i]? = some x → args[i]? = some s → OpdR (lk e) x s)
    (hk : execCall P o h f (app args caps) K) : Goal P o n e h K := by
  unfold execCall okT at hk
  split at hk
  case h_2 => exact hk.elim
  rename_i hall
  obtain ⟨l', lent, hk, hlive, hlend⟩ := lendK_sound hk
  -- what the call is
  have run : ∀ (cx : Cx) (w : World) (a : Act), Enters P f → Reads (lk e) (slotsOf o.op.operands.toList) cx w a → ∃ vals : List Value, RelVL cx w (app args caps) vals ∧ (execOp a.eval o).run P w = .ok (.enter f vals.toArray) w := by
    intro cx w a hE hr
    have hx0 : RelC cx w (.clo f caps) [a.eval x] := hx.rel hr fun t ht => mem_slotsOf (by simp [ho, Op.operands, Call.operands, hc, ht])
    generalize hv : a.eval x = v at hx0
    cases hx0 with
    | clo vs hlen hcl =>
      refine ⟨(c.args.toList.map a.eval) ++ vs, .app (relVL_of (by simp [hl]) fun i s v h1 h2 => ?_) (relVL_of hlen fun i s v h1 h2 => ?_), ?_⟩
      · rw [List.getElem?_map] at h2
        cases hci : c.args.toList[i]? with
        | none => simp [hci] at h2
        | some y =>
          simp [hci] at h2
          subst h2
          have hr2 := (hargs i y s hci h1).rel hr fun t ht => mem_slotsOf (by
            have : y ∈ c.args := by rw [← Array.mem_toList_iff]; exact List.mem_of_getElem? hci
            simp [ho, Op.operands, Call.operands, hc, ← ht, this])
          have hok : argOK s = true := by
            have h3 : s ∈ app args caps := by rw [app_eq]; exact List.mem_append_left _ (List.mem_of_getElem? h1)
            exact List.all_eq_true.1 hall s h3
          cases s <;> first | exact hr2 | (simp [argOK] at hok)
      · have := hcl i s v h1 h2
        have hok : scal s = true := List.all_eq_true.1 hsc s (List.mem_of_getElem? h1)
        cases s <;> first | exact this | (simp [scal] at hok)
      · have e2 : c.args.map a.eval ++ vs.toArray = ((c.args.toList.map a.eval) ++ vs).toArray := by
          apply Array.ext'
          simp
        simp only [execOp, ho, resolve, hc, hv, Deferred.ofValue]
        rw [← e2]
        simp [invoke, run_callFunc hE]
  have core : ∀ (ks : List Nat) (hpi : List OB), ks.Nodup → hpi.length = ks.length → (∀ (j k : Nat), ks[j]? = some k → ∃ s, nthB h k = some (OB.cells s) ∧ hpi[j]? = some (OB.cells s) ∧ noRef s = true) → (∀ k ∈ ks, k ∉ lent) → (∀ k, ments k l' = true → k ∈ ks) →
      CallN P f (rens (idx ks) l') hpi (callK o (len h) ks lent K) → Goal P o n e h K := by
    intro ks hpi hnd hlen hkc hdisj hment hcall
    obtain ⟨r, hp', ⟨hE, hsp⟩, hcK⟩ := hcall.inv
    unfold callK at hcK
    split at hcK
    · exact hcK.elim
    rename_i hble
    have hle : ks.length ≤ hp'.length := by rw [← len_eq ks, ← len_eq hp']; exact Nat.le_of_ble_eq_true hble
    obtain ⟨hclean, hcK⟩ : (lent = [] ∨ CleanP r hp') ∧ K (callRec o (len h) ks lent r hp') := by
      split at hcK
      · exact ⟨.inl rfl, hcK⟩
      · obtain ⟨h1, h2⟩ := need_iff.1 hcK
        exact ⟨.inr h1, h2⟩
    refine ⟨_, fun sl' hp2 ha B cx a w Q K' hB hs hK => ?_, hcK⟩
    simp only [Agree, callRec, Bool.false_eq_true, if_false] at ha
    obtain ⟨ha1, ha2⟩ := ha
    simp only [app_eq, List.mem_append] at ha2
    obtain ⟨vals, hv, hrun⟩ := run cx w a hE (.of_sat hs ha1)
    unfold Oper.wp
    rw [hrun, Oper.upon_enter]
    have hv2 := hlend cx w vals hp2 lent (fun k hk => ha2 k (.inr (.inl hk))) (fun k hk => hk) hs.mem hv
    have hv3 : RelVL ⟨fun j => (ks[j]?).bind cx.bl, (cx.minus lent).O⟩ w (rens (idx ks) l') vals := hv2.ren ⟨fun k x hm hx => by
      simp only [idx_get ks k (hment k hm), Option.bind_some]; exact hx, fun _ _ h => h⟩
    refine (call_core hsp hs.mem hnd hlen (fun j k hj => ?_) hv3 hdisj (fun k hk => ?_) (base := len h) (fun i hi => ?_) hle hclean B.keep (fun k hk => by rw [hs.fr.keep k hk]; exact B.kp k hk)).mono ?_
    · obtain ⟨s, h1, h2, h3⟩ := hkc j k hj
      exact ⟨s, by rw [ha2 k (.inl (List.mem_of_getElem? hj)), h1], h2, h3⟩
    · obtain ⟨ob, h1, h2⟩ := hlive k hk
      exact ⟨ob, by rw [ha2 k (.inr (.inl hk)), h1], h2⟩
    · have h1 := outHp_mem (backN ks (len ks) (len h)) hp' 0 (ks.length + i) _ (List.getElem?_eq_getElem (by omega))
      have h2 : backN ks (len ks) (len h) (0 + (ks.length + i)) = len h + i := by
        have : Nat.blt (ks.length + i) ks.length = false := by
          cases hb : Nat.blt (ks.length + i) ks.length with
          | false => rfl
          | true => exact absurd (show ks.length + i < ks.length by simpa using hb) (by omega)
        simp only [backN, len_eq, Nat.zero_add, this, Nat.add_sub_cancel_left]
      rw [h2] at h1
      rw [ha2 (len h + i) (.inr (.inr (List.mem_map.2 ⟨_, h1, rfl⟩))), nthB_eq, len_eq]
      exact List.getElem?_eq_none (by omega)
    · rintro e2 w' ⟨v, cx2, rfl, h1, h2, h3, h4⟩
      refine hK cx2 _ _ ?_
      subst hB
      exact (hs.later h1 h3 h2).put h4 hn
  split at hk
  · rename_i hnr
    refine core [] [] List.nodup_nil rfl (fun j k h => by simp at h) (fun k h => by cases h) (fun k hk => by rw [noRefs_ments k l' hnr] at hk; cases hk) ?_
    rw [rens_noRef _ _ hnr]
    exact hk
  · dsimp only at hk
    split at hk
    case h_2 => exact hk.elim
    rename_i hmeet
    obtain ⟨hpi, hk, h1, h2⟩ := inHp_sound hk
    refine core _ hpi (refss_nodup l' [] List.nodup_nil) h1 h2 (fun k h3 h4 => ?_) (fun k hk => refss_mem l' [] (.inl hk)) hk
    simp only [meets, Bool.not_eq_true', List.any_eq_false] at hmeet
    have := hmeet k h3
    simp only [Bool.not_eq_true, List.any_eq_false] at this
    have h5 := this k h4
    simp at h5
end
end Go.Fw
