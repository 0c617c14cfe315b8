/- The executor is sound: calls. -/
import Derived.Test.YtlkhjalnnciocaaGreatFm3

namespace Go.Fw

mutual
theorem refs_mem {k : Nat} : ∀ (s : SV) (acc : List Nat), (ment k s = true ∨ k ∈ acc) → k ∈ refs s acc
  | .v _, acc, h => h.resolve_left (by simp [ment])
  | .ba .., acc, h => h.resolve_left (by simp [ment])
  | .fs .., acc, h => h.resolve_left (by simp [ment])
  | .pf .., acc, h => h.resolve_left (by simp [ment])
  | .top, acc, h => h.resolve_left (by simp [ment])
  | .agg cs, acc, h => refss_mem cs acc (by simpa [ment] using h)
  | .tup cs, acc, h => refss_mem cs acc (by simpa [ment] using h)
  | .clo _ cs, acc, h => refss_mem cs acc (by simpa [ment] using h)
  | .pb j _, acc, h => addN_mem j acc (h.imp (fun h => (Nat.eq_of_beq_eq_true (by simpa [ment] using h)).symm) id)
  | .pe _ j _ _, acc, h => addN_mem j acc (h.imp (fun h => (Nat.eq_of_beq_eq_true (by simpa [ment] using h)).symm) id)
  | .ov _ j _ _, acc, h => addN_mem j acc (h.imp (fun h => (Nat.eq_of_beq_eq_true (by simpa [ment] using h)).symm) id)
  | .sb j _ _ _, acc, h => addN_mem j acc (h.imp (fun h => (Nat.eq_of_beq_eq_true (by simpa [ment] using h)).symm) id)
theorem refss_mem {k : Nat} : ∀ (cs : List SV) (acc : List Nat), (ments k cs = true ∨ k ∈ acc) → k ∈ refss cs acc
  | [], acc, h => h.resolve_left (by simp [ments])
  | s :: r, acc, h => by
    refine refss_mem r _ ?_
    rcases h with h | h
    · simp only [ments] at h
      split at h
      · exact .inr (refs_mem s acc (.inl (by assumption)))
      · exact .inl h
    · exact .inr (refs_mem s acc (.inr h))
theorem addN_mem {k : Nat} : ∀ (j : Nat) (acc : List Nat), (k = j ∨ k ∈ acc) → k ∈ addN j acc
  | j, [], h => by
    rcases h with rfl | h
    · simp [addN]
    · cases h
  | j, i :: r, h => by
    simp only [addN]
    split
    · rename_i hb
      have hb := Nat.eq_of_beq_eq_true hb
      rcases h with rfl | h
      · rw [hb]; exact List.mem_cons_self
      · exact h
    · rcases h with rfl | h
      · exact List.mem_cons_of_mem _ (addN_mem k r (.inl rfl))
      · rcases List.mem_cons.1 h with rfl | h
        · exact List.mem_cons_self
        · exact List.mem_cons_of_mem _ (addN_mem j r (.inr h))
end
theorem addN_inv {k : Nat} : ∀ (j : Nat) (acc : List Nat), k ∈ addN j acc → k = j ∨ k ∈ acc
  | j, [], h => by simpa [addN] using h
  | j, i :: r, h => by
    simp only [addN] at h
    split at h
    · exact .inr h
    · rcases List.mem_cons.1 h with rfl | h
      · exact .inr List.mem_cons_self
      · exact (addN_inv j r h).imp id (List.mem_cons_of_mem _)
theorem addN_nodup : ∀ (j : Nat) (acc : List Nat), acc.Nodup → (addN j acc).Nodup
  | j, [], _ => by simp [addN]
  | j, i :: r, h => by
    simp only [addN]
    split
    · exact h
    · rename_i hb
      rw [List.nodup_cons] at h ⊢
      refine ⟨fun hm => ?_, addN_nodup j r h.2⟩
      rcases addN_inv j r hm with rfl | hm
      · simp at hb
      · exact h.1 hm
mutual
theorem refs_nodup : ∀ (s : SV) (acc : List Nat), acc.Nodup → (refs s acc).Nodup
  | .v _, _, h => h
  | .ba .., _, h => h
  | .fs .., _, h => h
  | .pf .., _, h => h
  | .top, _, h => h
  | .agg cs, acc, h => refss_nodup cs acc h
  | .tup cs, acc, h => refss_nodup cs acc h
  | .clo _ cs, acc, h => refss_nodup cs acc h
  | .pb j _, acc, h => addN_nodup j acc h
  | .pe _ j _ _, acc, h => addN_nodup j acc h
  | .ov _ j _ _, acc, h => addN_nodup j acc h
  | .sb j _ _ _, acc, h => addN_nodup j acc h
theorem refss_nodup : ∀ (cs : List SV) (acc : List Nat), acc.Nodup → (refss cs acc).Nodup
  | [], _, h => h
  | s :: r, acc, h => refss_nodup r _ (refs_nodup s acc h)
end
theorem idx_get : ∀ (ks : List Nat) (k : Nat), k ∈ ks → ks[idx ks k]? = some k
  | [], k, h => by cases h
  | j :: r, k, h => by
    simp only [idx]
    split
    · rename_i hb; rw [Nat.eq_of_beq_eq_true hb]; rfl
    · rename_i hb
      rcases List.mem_cons.1 h with rfl | h
      · simp at hb
      · simpa using idx_get r k h

/-- The same value under other names of the owned blocks. -/
structure Ren (g : Nat → Nat) (M : Nat → Prop) (cx : Cx) (w : World) (cx' : Cx) : Prop where
  bl : ∀ k x, M k → cx.bl k = some x → cx'.bl (g k) = some x
  own : ∀ b, b < w.heap.size → cx'.O b → cx.O b

theorem RelC.ren {cx w s vs} (h : RelC cx w s vs) : ∀ {g : Nat → Nat} {cx' : Cx}, Ren g (fun k => ment k s = true) cx w cx' → RelC cx' w (Fw.ren g s) vs := by
  induction h with
  | v h => intro _ _ _; exact .v h
  | top h => intro _ _ _; exact .top h
  | nil => intro _ _ _; exact .nil
  | @cons cx w s cs vs us _ _ ih1 ih2 =>
    intro g cx' e
    refine .cons (ih1 ⟨fun k x hm => e.bl k x (by simp [ment, ments, hm]), e.own⟩) (ih2 ⟨fun k x hm => e.bl k x ?_, e.own⟩)
    simp only [ment] at hm
    simp only [ment, ments]
    split
    · rfl
    · exact hm
  | ba h => intro _ _ _; exact .ba h
  | fs0 h => intro _ _ _; exact .fs0 h
  | fs f hb hO hc ht hr hl hx ih =>
    intro g cx' e
    have hlt := lt_of_getElem? hb
    exact .fs f hb (fun h => hO (e.own _ hlt h)) hc ht (fun i s hs => (hr i s hs).mono ⟨fun _ _ h => (by cases h), fun _ _ _ => rfl, fun b h => by
      rcases Nat.lt_or_ge b _ with hb' | hb'
      · exact .inl (e.own b hb' h)
      · exact .inr hb'⟩) hl hx
  | ov h1 h2 => intro _ _ e; exact .ov (e.bl _ _ (by simp [ment]) h1) h2
  | ov0 h1 => intro _ _ e; exact .ov0 (e.bl _ _ (by simp [ment]) h1)
  | ovz h1 => intro _ _ e; exact .ovz (e.bl _ _ (by simp [ment]) h1)
  | sb h1 h2 => intro _ _ e; exact .sb (e.bl _ _ (by simp [ment]) h1) h2
  | pb h1 => intro _ _ e; exact .pb (e.bl _ _ (by simp [ment]) h1)
  | pe h1 => intro _ _ e; exact .pe (e.bl _ _ (by simp [ment]) h1)
  | pf _ ih => intro g _ e; exact .pf (ih (g := g) ⟨fun k x hm => by simp [ment] at hm, e.own⟩)
  | @clo cx w f caps vs hl _ ih =>
    intro g cx' e
    have hlen : ∀ (l : List SV), (Fw.rens g l).length = l.length := by intro l; induction l <;> simp [Fw.rens, *]
    have hget : ∀ (l : List SV) (i : Nat), (Fw.rens g l)[i]? = (l[i]?).map (Fw.ren g) := by
      intro l
      induction l with
      | nil => intro i; simp [Fw.rens]
      | cons s l ihl => intro i; cases i <;> simp [Fw.rens, ihl]
    refine .clo vs (by rw [hlen, hl]) fun i s x h1 h2 => ?_
    rw [hget] at h1
    cases hc : caps[i]? with
    | none => rw [hc] at h1; cases h1
    | some s0 =>
      rw [hc] at h1
      simp only [Option.map_some, Option.some.injEq] at h1
      subst h1
      refine ih i s0 x hc h2 ⟨fun k y hm => e.bl k y ?_, e.own⟩
      simp only [ment]
      have : ∀ (l : List SV) (i : Nat), l[i]? = some s0 → ment k s0 = true → ments k l = true := by
        intro l
        induction l with
        | nil => intro i h; simp at h
        | cons s l ihl =>
          intro i h hm
          simp only [ments]
          split
          · rfl
          · rename_i hne
            cases i with
            | zero => simp at h; subst h; rw [hm] at hne; cases hne
            | succ i => exact ihl i (by simpa using h) hm
      exact this caps i hc hm

theorem RelV1.ren {cx w s v} (h : RelV1 cx w s v) {g : Nat → Nat} {cx' : Cx} (e : Ren g (fun k => ment k s = true) cx w cx') : RelV1 cx' w (Fw.ren g s) v := by
  cases s <;> simp only [RelV1] at h <;> first
    | exact h
    | exact RelC.ren h e
    | exact h.elim
    | (obtain ⟨vs, h1, h2⟩ := h; exact ⟨vs, h1, h2.ren e⟩)
theorem RelVL.ren {cx w l vs} (h : RelVL cx w l vs) {g : Nat → Nat} {cx' : Cx} (e : Ren g (fun k => ments k l = true) cx w cx') : RelVL cx' w (Fw.rens g l) vs := by
  induction h with
  | nil => exact .nil
  | @cons s v l vs h _ ih =>
    refine .cons (h.ren ⟨fun k x hm => e.bl k x (by simp [ments, hm]), e.own⟩) (ih ⟨fun k x hm => e.bl k x ?_, e.own⟩)
    simp only [ments]
    split
    · rfl
    · exact hm
theorem RelV.ren {cx w s v} (h : RelV cx w s v) {g : Nat → Nat} {cx' : Cx} (e : Ren g (fun k => ment k s = true) cx w cx') : RelV cx' w (Fw.ren g s) v := by
  cases s <;> simp only [RelV] at h <;> first
    | exact RelV1.ren h e
    | (obtain ⟨vs, h1, h2⟩ := h; exact ⟨vs, h1, h2.ren ⟨fun k x hm => e.bl k x (by simpa [ment] using hm), e.own⟩⟩)

/-- What is clean hangs on no memory but the owned blocks that it names. -/
theorem RelC.clean {cx w s vs} (h : RelC cx w s vs) : cl2 s = true → ∀ {cx' w'}, (∀ k x, cx.bl k = some x → cx'.bl k = some x) → RelC cx' w' s vs := by
  induction h with
  | v h => intro _ _ _ _; exact .v h
  | top h => intro hc; simp [cl2] at hc
  | nil => intro _ _ _ _; exact .nil
  | cons _ _ ih1 ih2 =>
    intro hc _ _ e
    simp only [cl2, cl2s] at hc
    split at hc
    · exact .cons (ih1 (by assumption) e) (ih2 (by simpa [cl2] using hc) e)
    · cases hc
  | ba h => intro _ _ _ _; exact .ba h
  | ov h1 h2 => intro _ _ _ e; exact .ov (e _ _ h1) h2
  | ov0 h1 => intro _ _ _ e; exact .ov0 (e _ _ h1)
  | ovz h1 => intro _ _ _ e; exact .ovz (e _ _ h1)
  | _ => intro hc; simp [cl2] at hc
theorem cl_cl2 : ∀ {s : SV}, cl s = true → cl2 s = true
  | .v _, _ => rfl
  | .ba .., _ => rfl
  | .agg cs, h => cls_cl2 (cs := cs) h
  | .tup cs, h => cls_cl2 (cs := cs) h
  | .fs .., h => by simp [cl] at h
  | .ov .., _ => rfl
  | .sb .., h => by simp [cl] at h
  | .pb .., h => by simp [cl] at h
  | .pe .., h => by simp [cl] at h
  | .pf .., h => by simp [cl] at h
  | .clo .., h => by simp [cl] at h
  | .top, h => by simp [cl] at h
where cls_cl2 : ∀ {cs : List SV}, cls cs = true → cl2s cs = true
  | [], _ => rfl
  | s :: r, h => by
    simp only [cls] at h
    split at h
    · simp only [cl2s, cl_cl2 (by assumption), cls_cl2 h]
    · cases h
theorem RelV1.clean {cx w s v} (h : RelV1 cx w s v) (hc : cl2 s = true) {cx' w'} (e : ∀ k x, cx.bl k = some x → cx'.bl k = some x) : RelV1 cx' w' s v := by
  cases s <;> simp only [RelV1] at h ⊢ <;> first | exact h.clean hc e | exact h | (obtain ⟨vs, h1, h2⟩ := h; exact ⟨vs, h1, h2.clean hc e⟩)
theorem RelVL.clean {cx w l vs} (h : RelVL cx w l vs) (hc : cl2s l = true) {cx' w'} (e : ∀ k x, cx.bl k = some x → cx'.bl k = some x) : RelVL cx' w' l vs := by
  induction h with
  | nil => exact .nil
  | cons h _ ih =>
    simp only [cl2s] at hc
    split at hc
    · exact .cons (h.clean (by assumption) e) (ih hc)
    · cases hc
theorem RelV.clean {cx w s v} (h : RelV cx w s v) (hc : cl2 s = true) {cx' w'} (e : ∀ k x, cx.bl k = some x → cx'.bl k = some x) : RelV cx' w' s v := by
  cases s <;> simp only [RelV] at h ⊢ <;> first | exact h.clean hc e | (obtain ⟨vs, h1, h2⟩ := h; exact ⟨vs, h1, h2.clean (by simpa [cl2] using hc) e⟩)
end Go.Fw

/- The executor is sound: calls, whole. -/
namespace Go.Fw

theorem lend_one {h : List OB} {s : SV} {K : Nat → List SV → List Nat → Prop} (hs : (∃ E k o m, s = .ov E k o m) ∨ ∃ k p o m, s = .sb k p o m) (hk : rowsOf' h s K) : ∃ E xs ks, K E xs ks ∧ (∀ k ∈ ks, ∃ ob, nthB h k = some ob ∧ ob ≠ .gone) ∧
    ∀ (cx : Cx) (w : World) (v : Value) (hp' : Nat → Option OB) (kk : List Nat), (∀ k ∈ ks, hp' k = nthB h k) → (∀ k ∈ ks, k ∈ kk) → Mem cx w hp' → RelV1 cx w s v → RelV1 (cx.minus kk) w (.fs .no E xs) v := by
  rcases hs with ⟨E, k, off, m, rfl⟩ | ⟨k, p, off, m, rfl⟩
  · simp only [rowsOf', nm_eq] at hk
    split at hk
    · rename_i E' rows hs
      split at hk
      · rename_i hE
        have hE := Nat.eq_of_beq_eq_true hE
        subst hE
        obtain ⟨hle, hk⟩ := need_iff.1 hk
        refine ⟨_, _, _, hk, fun k hk => by rw [List.mem_singleton.1 hk]; exact ⟨_, hs, by simp⟩, fun cx w v hp' kk hh hkk hm hr => ?_⟩
        have hl := hm.live k _ (by rw [hh k (by simp), hs])
        have hlen : ((rows.drop off).take m).length = m := by simp; omega
        have hr : RelC cx w (.ov E k off m) [v] := hr
        show RelC _ _ _ [v]
        cases hr with
        | ov hb hC =>
          rename_i b C
          rcases hl with ⟨b', C', hb', _, vs, T, hh', hlen', hrl, hrows⟩ | ⟨hb', _⟩
          · rw [hb] at hb'; cases hb'
            have hCE : (off + m) * E ≤ C * E := Nat.mul_le_mul_right E hC
            rw [Nat.add_mul] at hCE
            have hmC : m ≤ C - off := by omega
            have := minus_fs (ks := kk) (rows := (rows.drop off).take m) (off := off * E) (cap := C - off) hh' (hkk k (by simp)) hb (by rw [hlen]; exact hmC) (by rw [hlen, hlen']; omega) (fun i s hs => by
              simp only [List.getElem?_take, List.getElem?_drop] at hs
              split at hs
              · rw [← Nat.add_mul]; exact hrows (off + i) s hs
              · cases hs)
            rw [hlen] at this
            exact this
          · rw [hb] at hb'; cases hb'
        | ov0 => simp; exact .fs0 Tg.ok_no
        | ovz => simp; exact .fs0 Tg.ok_no
      · exact hk.elim
    · exact hk.elim
  · simp only [rowsOf', nm_eq] at hk
    split at hk
    · rename_i s0 hs
      obtain ⟨y, hk, hle, hy⟩ := follow_sound _ _ _ hk
      split at hk
      · rename_i nb l
        obtain ⟨hle2, hk⟩ := need_iff.1 hk
        refine ⟨_, _, _, hk, fun k hk => by rw [List.mem_singleton.1 hk]; exact ⟨_, hs, by simp⟩, fun cx w v hp' kk hh hkk hm hr => ?_⟩
        have hl := hm.live k _ (by rw [hh k (by simp), hs])
        have hr : RelC cx w (.sb k p off m) [v] := hr
        show RelC _ _ _ [v]
        cases hr with
        | sb hb hC =>
          rename_i b C cap
          rcases hl with ⟨b', C', hb', _, vs, T, hh', hrc⟩ | ⟨hb', _⟩
          · rw [hb] at hb'; cases hb'
            have hrb := hy cx w vs hrc
            have hvl := hrc.width
            generalize hseg0 : (vs.drop (offs p)).take (wd (SV.ba nb l)) = seg at hrb
            cases hrb with
            | ba hln =>
              have hlen : (((bytesRows l).drop off).take m).length = m := by simp [bytesRows]; omega
              simp only [wd] at hle hseg0
              have := minus_fs (ks := kk) (E := 1) (rows := ((bytesRows l).drop off).take m) (off := offs p + off) (cap := cap) hh' (hkk k (by simp)) hb (by rw [hlen]; omega) (by rw [hlen]; omega) (fun i s hs => by
                simp only [List.getElem?_take, List.getElem?_drop] at hs
                split at hs
                · rename_i hi
                  have h1 := bytes_seg (cx := cx.bare) (w := w) l (off + i) s hs
                  rw [← hseg0, Nat.mul_one, List.drop_take, List.drop_drop, List.take_take] at h1
                  rw [Nat.mul_one, Nat.add_assoc]
                  rw [Nat.min_eq_left (by omega)] at h1
                  exact h1
                · cases hs)
              rw [hlen] at this
              exact this
          · rw [hb] at hb'; cases hb'
      · exact hk.elim
    · rename_i x E0 rows hs
      split at hk
      case h_2 => exact hk.elim
      rename_i E1 n1 i p'
      split at hk
      case h_2 => exact hk.elim
      rename_i hE
      have hE := Nat.eq_of_beq_eq_true hE
      subst hE
      obtain ⟨s, hsi, hk⟩ := elem_iff.1 hk
      obtain ⟨y, hk, hle, hy⟩ := follow_sound _ _ _ hk
      split at hk
      case h_2 => exact hk.elim
      rename_i nb l
      obtain ⟨hle2, hk⟩ := need_iff.1 hk
      refine ⟨_, _, _, hk, fun k hk => by rw [List.mem_singleton.1 hk]; exact ⟨_, hs, by simp⟩, fun cx w v hp' kk hh hkk hm hr => ?_⟩
      have hl := hm.live k _ (by rw [hh k (by simp), hs])
      rcases hl with ⟨b', C', hb', _, vs, T, hh', hlenv, hA, hrows⟩ | ⟨_, E', hb'⟩
      · obtain ⟨hrb, hvl⟩ := elem_bytes (nb := nb) (p := p') hsi hlenv hA hrows hle hy n1
        have hr : RelC cx w (.sb k (.ix E0 n1 i :: p') off m) [v] := hr
        show RelC _ _ _ [v]
        generalize PS.ix E0 n1 i :: p' = p at hr hrb hvl
        cases hr with
        | sb hb hC =>
          rename_i b C cap
          rw [hb] at hb'; cases hb'
          generalize hseg0 : (vs.drop (offs p)).take nb = seg at hrb
          cases hrb with
          | ba hln =>
            have hlen : (((bytesRows l).drop off).take m).length = m := by simp [bytesRows]; omega
            have := minus_fs (ks := kk) (E := 1) (rows := ((bytesRows l).drop off).take m) (off := offs p + off) (cap := cap) hh' (hkk k (by simp)) hb (by rw [hlen]; omega) (by rw [hlen]; omega) (fun i s hs => by
              simp only [List.getElem?_take, List.getElem?_drop] at hs
              split at hs
              · rename_i hi
                have h1 := bytes_seg (cx := cx.bare) (w := w) l (off + i) s hs
                rw [← hseg0, Nat.mul_one, List.drop_take, List.drop_drop, List.take_take] at h1
                rw [Nat.mul_one, Nat.add_assoc]
                rw [Nat.min_eq_left (by omega)] at h1
                exact h1
              · cases hs)
            rw [hlen] at this
            exact this
      · simp only [OB.arr.injEq] at hb'
        rw [hb'.2.2] at hsi
        simp at hsi
    · exact hk.elim

theorem lendA_sound {h : List OB} : ∀ {cs : List SV} {K : List SV → List Nat → Prop}, lendA h cs K → ∃ cs' ks, K cs' ks ∧ (∀ k ∈ ks, ∃ ob, nthB h k = some ob ∧ ob ≠ .gone) ∧
    ∀ (cx : Cx) (w : World) (us : List Value) (hp' : Nat → Option OB) (kk : List Nat), (∀ k ∈ ks, hp' k = nthB h k) → (∀ k ∈ ks, k ∈ kk) → Mem cx w hp' → RelC cx w (.agg cs) us → RelC (cx.minus kk) w (.agg cs') us
  | [], K, hk => ⟨[], [], hk, fun _ h => (by cases h), fun cx w us hp' kk _ _ _ hr => hr.mono (ext_minus cx w kk)⟩
  | s :: r, K, hk => by
    simp only [lendA] at hk
    split at hk
    · rename_i E0 k0 o0 n0
      obtain ⟨E, xs, ks0, hk, hl0, hs⟩ := lend_one (.inl ⟨_, _, _, _, rfl⟩) hk
      obtain ⟨l', ks, hk, hl1, hr⟩ := lendA_sound hk
      refine ⟨_, _, hk, fun k hk => ?_, fun cx w us hp' kk h1 h2 hm hv => ?_⟩
      · rw [app_eq] at hk
        exact (List.mem_append.1 hk).elim (hl0 k) (hl1 k)
      rw [app_eq] at h1 h2
      cases hv with
      | @cons _ _ _ _ vs us' hv1 hv2 =>
        have hw := hv1.width
        obtain ⟨v, rfl⟩ : ∃ v, vs = [v] := by
          match vs, hw with
          | [v], _ => exact ⟨v, rfl⟩
        have := hs cx w v hp' kk (fun k hk => h1 k (List.mem_append_left _ hk)) (fun k hk => h2 k (List.mem_append_left _ hk)) hm hv1
        exact .cons (show RelC _ _ _ [v] from this) (hr cx w us' hp' kk (fun k hk => h1 k (List.mem_append_right _ hk)) (fun k hk => h2 k (List.mem_append_right _ hk)) hm hv2)
    · obtain ⟨l', ks, hk, hl1, hr⟩ := lendA_sound hk
      refine ⟨_, _, hk, hl1, fun cx w us hp' kk h1 h2 hm hv => ?_⟩
      cases hv with
      | @cons _ _ _ _ vs us' hv1 hv2 => exact .cons (hv1.mono (ext_minus cx w kk)) (hr cx w us' hp' kk h1 h2 hm hv2)
theorem lend_agg {h : List OB} {cs : List SV} {K : List SV → List Nat → Prop} (hk : lendA h cs K) : ∃ cs' ks, K cs' ks ∧ (∀ k ∈ ks, ∃ ob, nthB h k = some ob ∧ ob ≠ .gone) ∧
    ∀ (cx : Cx) (w : World) (v : Value) (hp' : Nat → Option OB) (kk : List Nat), (∀ k ∈ ks, hp' k = nthB h k) → (∀ k ∈ ks, k ∈ kk) → Mem cx w hp' → RelV1 cx w (.agg cs) v → RelV1 (cx.minus kk) w (.agg cs') v := by
  obtain ⟨cs', ks, h1, h2, h3⟩ := lendA_sound hk
  exact ⟨cs', ks, h1, h2, fun cx w v hp' kk a b c ⟨vs, e, hr⟩ => ⟨vs, e, h3 cx w vs hp' kk a b c hr⟩⟩
theorem lendK_sound {h : List OB} : ∀ {l : List SV} {K : List SV → List Nat → Prop}, lendK h l K → ∃ l' ks, K l' ks ∧ (∀ k ∈ ks, ∃ ob, nthB h k = some ob ∧ ob ≠ .gone) ∧
    ∀ (cx : Cx) (w : World) (vals : List Value) (hp' : Nat → Option OB) (kk : List Nat), (∀ k ∈ ks, hp' k = nthB h k) → (∀ k ∈ ks, k ∈ kk) → Mem cx w hp' → RelVL cx w l vals → RelVL (cx.minus kk) w l' vals
  | [], K, hk => ⟨[], [], hk, fun _ h => (by cases h), fun cx w vals hp' kk _ _ _ hr => by cases hr; exact .nil⟩
  | s :: r, K, hk => by
    have rest : ∀ {s' : SV} {ks0 : List Nat}, lendK h r (fun l ks => K (s' :: l) (app ks0 ks)) → (∀ k ∈ ks0, ∃ ob, nthB h k = some ob ∧ ob ≠ .gone) →
        (∀ (cx : Cx) (w : World) (v : Value) (hp' : Nat → Option OB) (kk : List Nat), (∀ k ∈ ks0, hp' k = nthB h k) → (∀ k ∈ ks0, k ∈ kk) → Mem cx w hp' → RelV1 cx w s v → RelV1 (cx.minus kk) w s' v) →
        ∃ l' ks, K l' ks ∧ (∀ k ∈ ks, ∃ ob, nthB h k = some ob ∧ ob ≠ .gone) ∧ ∀ (cx : Cx) (w : World) (vals : List Value) (hp' : Nat → Option OB) (kk : List Nat), (∀ k ∈ ks, hp' k = nthB h k) → (∀ k ∈ ks, k ∈ kk) → Mem cx w hp' → RelVL cx w (s :: r) vals → RelVL (cx.minus kk) w l' vals := by
      intro s' ks0 hk hl0 hs
      obtain ⟨l', ks, hk, hl1, hr⟩ := lendK_sound hk
      refine ⟨_, _, hk, fun k hk => ?_, fun cx w vals hp' kk h1 h2 hm hv => ?_⟩
      · rw [app_eq] at hk
        exact (List.mem_append.1 hk).elim (hl0 k) (hl1 k)
      rw [app_eq] at h1 h2
      cases hv with
      | cons hv1 hv2 =>
        exact .cons (hs cx w _ hp' kk (fun k hk => h1 k (List.mem_append_left _ hk)) (fun k hk => h2 k (List.mem_append_left _ hk)) hm hv1)
          (hr cx w _ hp' kk (fun k hk => h1 k (List.mem_append_right _ hk)) (fun k hk => h2 k (List.mem_append_right _ hk)) hm hv2)
    simp only [lendK] at hk
    split at hk
    · obtain ⟨E, xs, ks0, hk, hl, hs⟩ := lend_one (.inl ⟨_, _, _, _, rfl⟩) hk
      exact rest hk hl hs
    · obtain ⟨E, xs, ks0, hk, hl, hs⟩ := lend_one (.inr ⟨_, _, _, _, rfl⟩) hk
      exact rest hk hl hs
    · split at hk
      · obtain ⟨cs', ks0, hk, hl, hs⟩ := lend_agg hk
        exact rest hk hl hs
      · exact rest (ks0 := []) hk (fun _ h => by cases h) fun cx w v hp' kk _ _ _ hv => hv.mono (ext_minus cx w kk)
    · exact rest (s' := s) (ks0 := []) hk (fun _ h => by cases h) fun cx w v hp' kk _ _ _ hv => hv.mono (ext_minus cx w kk)

theorem outHp_fst (g : Nat → Nat) : ∀ (hp : List OB) (j : Nat), (outHp g j hp).map Prod.fst = (List.range' j hp.length).map g
  | [], _ => rfl
  | _ :: r, j => by simp [outHp, outHp_fst g r (j + 1), List.range'_succ]

/-- Writes at different places. -/
theorem updHp_get : ∀ (l : List (Nat × OB)) (hp : Nat → Option OB), (l.map Prod.fst).Nodup → (∀ k ob, (k, ob) ∈ l → updHp hp l k = some ob) ∧ (∀ (k : Nat), k ∉ l.map Prod.fst → updHp hp l k = hp k)
  | [], hp, _ => ⟨fun _ _ h => (by cases h), fun _ _ => rfl⟩
  | (k0, ob0) :: r, hp, hn => by
    simp only [List.map_cons, List.nodup_cons] at hn
    obtain ⟨h1, h2⟩ := updHp_get r (fun i => if i = k0 then some ob0 else hp i) hn.2
    refine ⟨fun k ob hk => ?_, fun k hk => ?_⟩
    · rcases List.mem_cons.1 hk with hk | hk
      · cases hk
        simp only [updHp]
        rw [h2 _ hn.1]; simp
      · exact h1 k ob hk
    · simp only [List.map_cons, List.mem_cons, not_or] at hk
      simp only [updHp]
      rw [h2 k hk.2]; simp [hk.1]
theorem outHp_mem (g : Nat → Nat) : ∀ (hp : List OB) (j : Nat) (i : Nat) (ob : OB), hp[i]? = some ob → (g (j + i), renOB g ob) ∈ outHp g j hp
  | [], _, i, ob, h => by simp at h
  | x :: r, j, 0, ob, h => by simp at h; subst h; exact List.mem_cons_self
  | x :: r, j, i + 1, ob, h => by
    have := outHp_mem g r (j + 1) i ob (by simpa using h)
    rw [show j + (i + 1) = j + 1 + i by omega]
    exact List.mem_cons_of_mem _ this
theorem outHp_inv (g : Nat → Nat) : ∀ (hp : List OB) (j : Nat) (k : Nat) (ob : OB), (k, ob) ∈ outHp g j hp → ∃ i x, hp[i]? = some x ∧ k = g (j + i) ∧ ob = renOB g x
  | [], _, _, _, h => by cases h
  | x :: r, j, k, ob, h => by
    rcases List.mem_cons.1 h with h | h
    · cases h; exact ⟨0, x, rfl, rfl, rfl⟩
    · obtain ⟨i, y, h1, h2, h3⟩ := outHp_inv g r (j + 1) k ob h
      exact ⟨i + 1, y, by simpa using h1, by rw [h2]; congr 1; omega, h3⟩
theorem nthN_eq : ∀ (l : List Nat) (i : Nat), nthN l i = l.getD i 0
  | [], i => by simp [nthN]
  | x :: r, 0 => by simp [nthN]
  | x :: r, i + 1 => by simp [nthN, nthN_eq r i]

theorem isCells_kind {hp : List OB} {k : Nat} (h : ∃ s, hp[k]? = some (OB.cells s)) : isCells (nthB hp) k := by
  obtain ⟨s, h⟩ := h; exact ⟨s, by rw [nthB_eq]; exact h⟩

mutual
theorem ren_cl2 (g : Nat → Nat) : ∀ (s : SV), cl2 (ren g s) = cl2 s
  | .v _ => rfl
  | .ba .. => rfl
  | .fs .. => rfl
  | .pf .. => rfl
  | .top => rfl
  | .ov .. => rfl
  | .sb .. => rfl
  | .pb .. => rfl
  | .pe .. => rfl
  | .clo .. => rfl
  | .agg cs => by simp only [ren, cl2]; exact rens_cl2 g cs
  | .tup cs => by simp only [ren, cl2]; exact rens_cl2 g cs
theorem rens_cl2 (g : Nat → Nat) : ∀ (cs : List SV), cl2s (rens g cs) = cl2s cs
  | [] => rfl
  | s :: r => by simp only [rens, cl2s, ren_cl2 g s, rens_cl2 g r]
end

/-- A call under its contract. -/
theorem call_core {P : Program} {f : FuncId} {args : List SV} {hpi hp' : List OB} {r : SV} {KP : Nat → Prop} (hsp : SpecG KP P f args hpi r hp') {cx : Cx} {w : World} {hp : Nat → Option OB} (hgl : Glob cx w) (hm : Mem cx w hp) {ks lent : List Nat} (hnd : ks.Nodup)
    (hks : hpi.length = ks.length) (hKP : ∀ j, j < ks.length → KP j) (hkc : ∀ (j k : Nat), ks[j]? = some k → ∃ ob, hp k = some ob ∧ ob ≠ .gone ∧ hpi[j]? = some (renOB (idx ks) ob) ∧ ((∃ s, ob = .cells s ∧ ∀ k, ment k s = true → k ∈ ks) ∨ ∃ x E rows, ob = .arr x E rows)) {vals : List Value}
    (hv : RelVL ⟨fun j => (ks[j]?).bind cx.bl, (cx.minus lent).O⟩ w args vals) (hdisj : ∀ k ∈ ks, k ∉ lent) (hlive : ∀ k ∈ lent, ∃ ob, hp k = some ob ∧ ob ≠ .gone) {base : Nat} (hfree : ∀ i, i < hp'.length - ks.length → hp (base + i) = none) (hle : ks.length ≤ hp'.length)
    (hclean : lent = [] ∨ CleanP r hp') (keep : Nat → Prop) (hkeep : ∀ k, keep k → cx.bl k ≠ none) :
    Does P f vals.toArray w fun e w' => ∃ v cx2, e = .returned v ∧ Ext cx w cx2 w' ∧ Fr keep cx w cx2 w' ∧ Mem cx2 w' (updHp hp (outHp (backN ks (len ks) base) 0 hp')) ∧ RelV cx2 w' (ren (backN ks (len ks) base) r) v := by
  have hkin : ∀ k ∈ ks, ∃ j, ks[j]? = some k := fun k hk => List.mem_iff_getElem?.1 hk
  -- the blocks that go in
  have hbk := hkc
  have hmi : Mem ⟨fun j => (ks[j]?).bind cx.bl, (cx.minus lent).O⟩ w (nthB hpi) := by
    refine ⟨fun j ob hj => ?_, fun j j' ob1 ob2 b C1 C2 h1 h2 _ _ b1 b2 => ?_, fun j hj => ?_, fun b hb => hm.lt b hb.1⟩
    · rw [nthB_eq] at hj
      have hjl : j < ks.length := by rw [← hks]; exact (List.getElem?_eq_some_iff.1 hj).1
      obtain ⟨ob2, h1, h2, h3, h4⟩ := hkc j _ (List.getElem?_eq_getElem hjl)
      rw [h3] at hj
      cases hj
      have away : ∀ b C, cx.bl ks[j] = some (.at b C) → ∀ k ∈ lent, ∀ C', cx.bl k ≠ some (.at b C') := by
        intro b C hb k hk C' hb'
        obtain ⟨ob', ho1, ho2⟩ := hlive k hk
        have : ks[j] = k := hm.inj _ k _ ob' b C C' h1 ho1 h2 ho2 hb hb'
        exact hdisj _ (List.getElem_mem hjl) (this ▸ hk)
      have hbe : (⟨fun j => (ks[j]?).bind cx.bl, (cx.minus lent).O⟩ : Cx).bl j = cx.bl ks[j] := by simp only [List.getElem?_eq_getElem hjl, Option.bind_some]
      rcases h4 with ⟨s, rfl, hn⟩ | ⟨x, E, rows, rfl⟩
      · rcases hm.live _ _ h1 with ⟨b, C, h5, h6, vs, T, h7, h8⟩ | ⟨_, E, h5⟩
        · refine .inl ⟨b, C, by rw [hbe]; exact h5, ⟨h6, away b C h5⟩, vs, T, h7, ?_⟩
          exact h8.ren ⟨fun k x hm hx => by simp only [idx_get ks k (hn k hm), Option.bind_some]; exact hx, fun _ _ h => h.1⟩
        · cases h5
      · rcases hm.live _ _ h1 with ⟨b, C, h5, h6, vs, T, h7, h8, h9, h10⟩ | ⟨h5, E', h6⟩
        · refine .inl ⟨b, C, by rw [hbe]; exact h5, ⟨h6, away b C h5⟩, vs, T, h7, h8, h9, fun i s hs => ?_⟩
          exact (h10 i s hs).mono ⟨fun _ _ h => (by cases h), fun _ _ _ => rfl, fun _ h => .inl h.1⟩
        · exact .inr ⟨by rw [hbe]; exact h5, E', h6⟩
    · have e1 : ∀ i ob, nthB hpi i = some ob → i < ks.length := fun i ob hi => by rw [nthB_eq] at hi; rw [← hks]; exact (List.getElem?_eq_some_iff.1 hi).1
      have l1 := e1 j ob1 h1
      have l2 := e1 j' ob2 h2
      obtain ⟨o1, g1, n1, _⟩ := hkc j _ (List.getElem?_eq_getElem l1)
      obtain ⟨o2, g2, n2, _⟩ := hkc j' _ (List.getElem?_eq_getElem l2)
      simp only [List.getElem?_eq_getElem l1, List.getElem?_eq_getElem l2, Option.bind_some] at b1 b2
      have := hm.inj _ _ _ _ b C1 C2 g1 g2 n1 n2 b1 b2
      exact (List.getElem_inj hnd).1 this
    · rw [nthB_eq] at hj
      have : ks.length ≤ j := by rw [← hks]; exact List.getElem?_eq_none_iff.1 hj
      simp [List.getElem?_eq_none this]
  have hgi : Glob ⟨fun j => (ks[j]?).bind cx.bl, (cx.minus lent).O⟩ w := fun g s hg => by
    obtain ⟨a1, a2, a3, a4⟩ := hgl g s hg
    exact ⟨a1, fun h => a2 h.1, fun k C h => by
      obtain ⟨k', _, h'⟩ := Option.bind_eq_some_iff.1 h
      exact a3 k' C h', a4⟩
  refine (hsp _ w vals hgi hmi hv).mono fun e w' ⟨cx', v, he, hr, hm', hf⟩ => ?_
  -- the caller's context behind the call
  have hn0 : len ks = ks.length := len_eq ks
  let N := hp'.length - ks.length
  let cx2 : Cx := ⟨fun j => if base ≤ j ∧ j < base + N then cx'.bl (ks.length + (j - base)) else cx.bl j, fun b => cx.O b ∨ cx'.O b⟩
  have hnew : ∀ j, base ≤ j ∧ j < base + N → hp j = none := fun j ⟨h1, h2⟩ => by
    have := hfree (j - base) (by omega)
    rwa [show base + (j - base) = j by omega] at this
  have hold : ∀ j, hp j ≠ none → ¬ (base ≤ j ∧ j < base + N) := fun j h1 h2 => h1 (hnew j h2)
  have hsize := hf.le
  have hOin : ∀ b, b < w.heap.size → cx'.O b → cx.O b := fun b hb h => by
    rcases hf.own b h with h | h
    · exact h.1
    · omega
  have hsame : ∀ b, b < w.heap.size → (∀ k ∈ ks, ∀ C, cx.bl k ≠ some (.at b C)) → w'.heap[b]? = w.heap[b]? := fun b hb hn => hf.same b hb fun j C hj => by
    cases hkj : ks[j]? with
    | none => simp [hkj] at hj
    | some k => simp [hkj] at hj; exact hn k (List.mem_of_getElem? hkj) C hj
  have hext : Ext cx w cx2 w' := by
    refine ⟨fun k x hk => ?_, fun b hb hO => hsame b hb fun k hk C hc => ?_, fun b hb => ?_⟩
    · have : hp k ≠ none := fun h => by rw [hm.dom k h] at hk; cases hk
      simp only [cx2, if_neg (hold k this)]; exact hk
    · obtain ⟨j, hj⟩ := hkin k hk
      obtain ⟨ob, h4, h5, _⟩ := hbk j k hj
      exact hO (live_at hm h4 hc h5).1
    · rcases hb with hb | hb
      · exact .inl hb
      · rcases Nat.lt_or_ge b w.heap.size with h | h
        · exact .inl (hOin b h hb)
        · exact .inr h
  have hgk : ∀ (j k : Nat), ks[j]? = some k → backN ks (len ks) base j = k := by
    intro j k hj
    have hjl : j < ks.length := (List.getElem?_eq_some_iff.1 hj).1
    have : Nat.blt j (len ks) = true := by simp [hn0, hjl]
    simp only [backN, this, nthN_eq, List.getD, hj]; rfl
  have hgn : ∀ i, backN ks (len ks) base (ks.length + i) = base + i := by
    intro i
    have : Nat.blt (ks.length + i) ks.length = false := by
      cases hb : Nat.blt (ks.length + i) ks.length with
      | false => rfl
      | true => exact absurd (show ks.length + i < ks.length by simpa using hb) (by omega)
    simp only [backN, hn0, this, Nat.add_sub_cancel_left]
  have hblk : ∀ (j k : Nat), ks[j]? = some k → cx'.bl j = cx.bl k := by
    intro j k hj
    obtain ⟨ob9, h9, hg9, _⟩ := hbk j k hj
    rw [hf.keep j (hKP j (List.getElem?_eq_some_iff.1 hj).1)]
    simp [hj]
  have hbl2 : ∀ j x, cx'.bl j = some x → cx2.bl (backN ks (len ks) base j) = some x := by
    intro j x hx
    rcases Nat.lt_or_ge j ks.length with hj | hj
    · have hjk := List.getElem?_eq_getElem hj
      rw [hgk j _ hjk]
      obtain ⟨ob9, h9, hg9, _⟩ := hbk j _ hjk
      simp only [cx2, if_neg (hold _ (by rw [h9]; simp))]
      rw [← hblk j _ hjk]; exact hx
    · obtain ⟨i, rfl⟩ : ∃ i, j = ks.length + i := ⟨j - ks.length, by omega⟩
      rw [hgn i]
      have hiN : i < N := by
        have : nthB hp' (ks.length + i) ≠ none := fun h => by rw [hm'.dom _ h] at hx; cases hx
        rw [nthB_eq] at this
        have : ¬ hp'.length ≤ ks.length + i := fun h => this (List.getElem?_eq_none_iff.2 h)
        omega
      simp only [cx2]
      rw [if_pos (by omega), show ks.length + (base + i - base) = ks.length + i by omega]
      exact hx
  -- ownership: nothing that the result names is among the caller's own
  have hOeq : lent = [] → ∀ b, b < w'.heap.size → cx2.O b → cx'.O b := by
    intro hl b hb h
    rcases h with h | h
    · rcases hf.old b (hm.lt b h) ⟨h, fun k hk => by rw [hl] at hk; cases hk⟩ with h1 | ⟨k, C, h1, h2⟩
      · exact h1
      · exfalso
        simp only at h2
        cases hkj : ks[k]? with
        | none => simp [hkj] at h2
        | some k2 =>
          exact h1 (hKP _ (List.getElem?_eq_some_iff.1 hkj).1)
    · exact h
  have hval : RelV cx2 w' (ren (backN ks (len ks) base) r) v := by
    rcases hclean with hl | hcl
    · exact hr.ren ⟨fun k x _ hx => hbl2 k x hx, hOeq hl⟩
    · have h1 : RelV ⟨cx'.bl, cx'.O⟩ w' r v := hr
      have h2 := (h1.ren (g := backN ks (len ks) base) (cx' := ⟨cx2.bl, cx'.O⟩) ⟨fun k x _ hx => hbl2 k x hx, fun b _ h => h⟩)
      have hc2 : cl2 (ren (backN ks (len ks) base) r) = true := by
        rw [ren_cl2]; exact hcl.1
      exact h2.clean hc2 fun _ _ h => h
  refine ⟨v, cx2, he, hext, ?_, ?_, hval⟩
  · refine ⟨hf.le, fun b hb hn => hsame b hb fun k _ C => hn k C, hext.own, fun b _ h => .inl (.inl h), fun j b C hj => ?_, fun j hj => ?_, hf.wk⟩
    · simp only [cx2] at hj
      split at hj
      · rename_i hr2
        rcases hf.blk _ b C hj with ⟨k', h0, h⟩ | h
        · exfalso
          simp only at h
          cases hkj : ks[k']? with
          | none => simp [hkj] at h
          | some k2 =>
            have h8 := hKP _ (List.getElem?_eq_some_iff.1 hkj).1
            rcases h0 with rfl | h0
            · have : ks[ks.length + (j - base)]? = none := List.getElem?_eq_none (by omega)
              rw [this] at hkj; cases hkj
            · exact h0 h8
        · exact .inr h
      · exact .inl ⟨j, .inl rfl, hj⟩
    · have : hp j ≠ none := fun h => hkeep j hj (hm.dom j h)
      simp only [cx2, if_neg (hold j this)]
  · have hbl3 : ∀ i, i < hp'.length → cx2.bl (backN ks (len ks) base i) = cx'.bl i := by
      intro i hi
      rcases Nat.lt_or_ge i ks.length with hj | hj
      · have hjk := List.getElem?_eq_getElem hj
        rw [hgk i _ hjk]
        obtain ⟨ob9, h9, hg9, _⟩ := hbk i _ hjk
        simp only [cx2, if_neg (hold _ (by rw [h9]; simp))]
        rw [← hblk i _ hjk]
      · obtain ⟨j, rfl⟩ : ∃ j, i = ks.length + j := ⟨i - ks.length, by omega⟩
        rw [hgn j]
        simp only [cx2]
        rw [if_pos (by omega), show ks.length + (base + j - base) = ks.length + j by omega]
    have hkey : ∀ i, i < hp'.length → (i < ks.length ∧ ∃ k, ks[i]? = some k ∧ backN ks (len ks) base i = k) ∨ (ks.length ≤ i ∧ backN ks (len ks) base i = base + (i - ks.length)) := by
      intro i hi
      rcases Nat.lt_or_ge i ks.length with hj | hj
      · exact .inl ⟨hj, _, List.getElem?_eq_getElem hj, hgk i _ (List.getElem?_eq_getElem hj)⟩
      · refine .inr ⟨hj, ?_⟩
        have := hgn (i - ks.length)
        rwa [show ks.length + (i - ks.length) = i by omega] at this
    have hgi : ∀ i j, i < hp'.length → j < hp'.length → backN ks (len ks) base i = backN ks (len ks) base j → i = j := by
      intro i j hi hj hij
      have cross : ∀ i j k, i < hp'.length → ks[i]? = some k → backN ks (len ks) base i = k → ks.length ≤ j → j < hp'.length → backN ks (len ks) base j = base + (j - ks.length) → backN ks (len ks) base i ≠ backN ks (len ks) base j := by
        intro i j k _ hk h1 h2 h3 h4 h5
        obtain ⟨ob9, h9, hg9, _⟩ := hbk i k hk
        rw [h1, h4] at h5
        rw [h5, hfree _ (by omega)] at h9
        cases h9
      rcases hkey i hi with ⟨h1, k1, h2, h3⟩ | ⟨h1, h2⟩ <;> rcases hkey j hj with ⟨g1, k2, g2, g3⟩ | ⟨g1, g2⟩
      · rw [h3, g3] at hij
        subst hij
        obtain ⟨p1, q1⟩ := List.getElem?_eq_some_iff.1 h2
        obtain ⟨p2, q2⟩ := List.getElem?_eq_some_iff.1 g2
        exact (List.getElem_inj hnd).1 (q1.trans q2.symm)
      · exact absurd hij (cross i j k1 hi h2 h3 g1 hj g2)
      · exact absurd hij.symm (cross j i k2 hj g2 g3 h1 hi h2)
      · rw [h2, g2] at hij; omega
    have hkeys : ((outHp (backN ks (len ks) base) 0 hp').map Prod.fst).Nodup := by
      rw [outHp_fst, List.Nodup, List.pairwise_map]
      refine (List.nodup_range' (s := 0) (n := hp'.length)).imp_of_mem fun {i j} h1 h2 hne heq => hne ?_
      simp only [List.mem_range'_1] at h1 h2
      exact hgi i j (by omega) (by omega) heq
    obtain ⟨hget, hnot⟩ := updHp_get _ hp hkeys
    have hcase : ∀ k ob, updHp hp (outHp (backN ks (len ks) base) 0 hp') k = some ob → (∃ i x, i < hp'.length ∧ hp'[i]? = some x ∧ k = backN ks (len ks) base i ∧ ob = renOB (backN ks (len ks) base) x) ∨
        (hp k = some ob ∧ ∀ i, i < hp'.length → k ≠ backN ks (len ks) base i) := by
      intro k ob hk
      by_cases hm2 : k ∈ (outHp (backN ks (len ks) base) 0 hp').map Prod.fst
      · obtain ⟨⟨k', ob'⟩, h1, h2⟩ := List.mem_map.1 hm2
        simp only at h2
        subst h2
        rw [hget _ _ h1] at hk
        cases hk
        obtain ⟨i, x, h3, h4, h5⟩ := outHp_inv _ _ _ _ _ h1
        exact .inl ⟨i, x, (List.getElem?_eq_some_iff.1 h3).1, h3, by simpa using h4, h5⟩
      · rw [hnot k hm2] at hk
        refine .inr ⟨hk, fun i hi he => hm2 ?_⟩
        have := outHp_mem (backN ks (len ks) base) hp' 0 i _ (List.getElem?_eq_getElem hi)
        rw [Nat.zero_add, ← he] at this
        exact List.mem_map.2 ⟨_, this, rfl⟩
    have hnk : ∀ k, (∀ i, i < hp'.length → k ≠ backN ks (len ks) base i) → k ∉ ks ∧ ¬ (base ≤ k ∧ k < base + N) := by
      intro k hk
      refine ⟨fun hmem => ?_, fun hr2 => ?_⟩
      · obtain ⟨j, hj⟩ := hkin k hmem
        have hjl : j < ks.length := (List.getElem?_eq_some_iff.1 hj).1
        exact hk j (by omega) (hgk j k hj).symm
      · have := hgn (k - base)
        exact hk (ks.length + (k - base)) (by omega) (by rw [this]; omega)
    have hOb : lent = [] → Ext ⟨fun _ => none, cx'.O⟩ w' ⟨fun _ => none, cx2.O⟩ w' := fun hl => ⟨fun _ _ h => (by cases h), fun _ _ _ => rfl, fun b h => by
      rcases Nat.lt_or_ge b w'.heap.size with hb | hb
      · exact .inl (hOeq hl b hb h)
      · exact .inr hb⟩
    refine ⟨fun k ob hk => ?_, fun j j' ob1 ob2 b C1 C2 h1 h2 n1 n2 b1 b2 => ?_, fun j hj => ?_, fun b hb => ?_⟩
    · rcases hcase k ob hk with ⟨i, x, hi, hx, rfl, rfl⟩ | ⟨hk0, hne⟩
      · have hl := hm'.live i x (by rw [nthB_eq]; exact hx)
        cases x with
        | gone => trivial
        | cells s =>
          rcases hl with ⟨b, C, h1, h2, vs, T, h3, h4⟩ | ⟨_, E, h2⟩
          · refine .inl ⟨b, C, by rw [hbl3 i hi]; exact h1, .inr h2, vs, T, h3, ?_⟩
            rcases hclean with hl0 | hcl
            · exact h4.ren ⟨fun k x _ hx => hbl2 k x hx, hOeq hl0⟩
            · have hc : cl s = true := hcl.2 _ (List.mem_of_getElem? hx)
              have h5 := (h4.ren (g := backN ks (len ks) base) (cx' := ⟨cx2.bl, cx'.O⟩) ⟨fun k x _ hx => hbl2 k x hx, fun b _ h => h⟩)
              exact h5.clean (by rw [ren_cl2]; exact cl_cl2 hc) fun _ _ h => h
          · cases h2
        | arr x E rows =>
          rcases hl with ⟨b, C, h1, h2, vs, T, h3, h4, h5, h6⟩ | ⟨h1, E', h2⟩
          · refine .inl ⟨b, C, by rw [hbl3 i hi]; exact h1, .inr h2, vs, T, h3, h4, h5, fun j s hs => ?_⟩
            rcases hclean with hl0 | hcl
            · exact (h6 j s hs).mono (hOb hl0)
            · have hc : ∀ s ∈ rows, cl s = true := hcl.2 _ (List.mem_of_getElem? hx)
              exact (h6 j s hs).clean (cl_cl2 (hc s (List.mem_of_getElem? hs))) fun _ _ h => (by cases h)
          · exact .inr ⟨by rw [hbl3 i hi]; exact h1, E', h2⟩
      · obtain ⟨hnks, hnr⟩ := hnk k hne
        have hl := hm.live k ob hk0
        have hsm : ∀ b C, cx.bl k = some (.at b C) → ob ≠ .gone → w'.heap[b]? = w.heap[b]? := by
          intro b C hb hog
          refine hsame b (hm.lt b (live_at hm hk0 hb hog).1) fun k' hk' C' hb' => ?_
          obtain ⟨j, hj⟩ := hkin k' hk'
          obtain ⟨ob9, h9, hg9, _⟩ := hbk j k' hj
          have := hm.inj k k' _ _ b C C' hk0 h9 hog hg9 hb hb'
          exact hnks (this ▸ hk')
        cases ob with
        | gone => trivial
        | cells s =>
          rcases hl with ⟨b, C, h1, h2, h3⟩ | ⟨_, E, h2⟩
          · exact .inl ⟨b, C, hext.bl _ _ h1, .inl h2, h3.mono hext (hsm b C h1 (by simp))⟩
          · cases h2
        | arr x E rows =>
          rcases hl with ⟨b, C, h1, h2, h3⟩ | ⟨h1, E', h2⟩
          · exact .inl ⟨b, C, hext.bl _ _ h1, .inl h2, h3.mono hext (hsm b C h1 (by simp))⟩
          · exact .inr ⟨hext.bl _ _ h1, E', h2⟩
    · have renG : ∀ x : OB, renOB (backN ks (len ks) base) x ≠ .gone → x ≠ .gone := fun x h e => h (by rw [e]; rfl)
      have cross : ∀ k ob i x C C', hp k = some ob → ob ≠ .gone → (∀ i, i < hp'.length → k ≠ backN ks (len ks) base i) → i < hp'.length → hp'[i]? = some x → cx2.bl k = some (.at b C) → cx2.bl (backN ks (len ks) base i) = some (.at b C') → False := by
        intro k ob i x C C' hk hog hne hi hx b1 b2
        obtain ⟨hnks, hnr⟩ := hnk k hne
        simp only [cx2, if_neg hnr] at b1
        rw [hbl3 i hi] at b2
        have hblt := hm.lt b (live_at hm hk b1 hog).1
        rcases Nat.lt_or_ge i ks.length with hj | hj
        · have hjk := List.getElem?_eq_getElem hj
          obtain ⟨ob9, h9, hg9, _⟩ := hbk i _ hjk
          rw [hblk i _ hjk] at b2
          have := hm.inj k _ _ _ b C C' hk h9 hog hg9 b1 b2
          exact hnks (this ▸ List.getElem_mem hj)
        · rcases hf.blk i b C' b2 with ⟨k', h0, h⟩ | h
          · simp only at h
            cases hkj : ks[k']? with
            | none => simp [hkj] at h
            | some k2 =>
              have h8 := hKP _ (List.getElem?_eq_some_iff.1 hkj).1
              rcases h0 with rfl | h0
              · rw [List.getElem?_eq_none hj] at hkj; cases hkj
              · exact h0 h8
          · omega
      rcases hcase j ob1 h1 with ⟨i, x, hi, hx, rfl, rfl⟩ | ⟨hk1, hne1⟩ <;> rcases hcase j' ob2 h2 with ⟨i', x', hi', hx', rfl, rfl⟩ | ⟨hk2, hne2⟩
      · rw [hbl3 i hi] at b1
        rw [hbl3 i' hi'] at b2
        have := hm'.inj i i' x x' b C1 C2 (by rw [nthB_eq]; exact hx) (by rw [nthB_eq]; exact hx') (renG x n1) (renG x' n2) b1 b2
        rw [this]
      · exact (cross j' ob2 i x C2 C1 hk2 n2 hne2 hi hx b2 b1).elim
      · exact (cross j ob1 i' x' C1 C2 hk1 n1 hne1 hi' hx' b1 b2).elim
      · obtain ⟨_, hnr1⟩ := hnk j hne1
        obtain ⟨_, hnr2⟩ := hnk j' hne2
        simp only [cx2, if_neg hnr1] at b1
        simp only [cx2, if_neg hnr2] at b2
        exact hm.inj j j' ob1 ob2 b C1 C2 hk1 hk2 n1 n2 b1 b2
    · have hnm : j ∉ (outHp (backN ks (len ks) base) 0 hp').map Prod.fst := fun hmem => by
        obtain ⟨⟨k', ob'⟩, h1, h2⟩ := List.mem_map.1 hmem
        simp only at h2
        subst h2
        rw [hget _ _ h1] at hj
        cases hj
      rw [hnot j hnm] at hj
      have hne : ∀ i, i < hp'.length → j ≠ backN ks (len ks) base i := fun i hi he => hnm (by
        have := outHp_mem (backN ks (len ks) base) hp' 0 i _ (List.getElem?_eq_getElem hi)
        rw [Nat.zero_add, ← he] at this
        exact List.mem_map.2 ⟨_, this, rfl⟩)
      simp only [cx2, if_neg (hnk j hne).2]
      exact hm.dom j hj
    · rcases hb with hb | hb
      · exact Nat.lt_of_lt_of_le (hm.lt b hb) hf.le
      · exact hm'.lt b hb
end Go.Fw

/- The executor is sound: calls to which arrays are given. -/
namespace Go.Fw
/-- A call under its contract, to which arrays are given. -/
theorem call_give {P : Program} {f : FuncId} {args : List SV} {hpi hp' : List OB} {r : SV} (hsp : Spec P f args hpi r hp') {cx : Cx} {w : World} {hp : Nat → Option OB} (hgl : Glob cx w) (hm : Mem cx w hp) {ks gs lent : List Nat} (hnd : (ks ++ gs).Nodup)
    (hks : hpi.length = ks.length + gs.length) (hgc : ∀ (j k : Nat), gs[j]? = some k → ∃ x E rows, hp k = some (OB.arr x E rows) ∧ hpi[ks.length + j]? = some (OB.arr x E rows)) (hkc : ∀ (j k : Nat), ks[j]? = some k → ∃ s, hp k = some (OB.cells s) ∧ hpi[j]? = some (OB.cells (ren (idx (ks ++ gs)) s)) ∧ ∀ k, ment k s = true → k ∈ ks ++ gs) {vals : List Value}
    (hv : RelVL ⟨fun j => ((ks ++ gs)[j]?).bind cx.bl, (cx.minus lent).O⟩ w args vals) (hdisj : ∀ k ∈ ks ++ gs, k ∉ lent) (hlive : ∀ k ∈ lent, ∃ ob, hp k = some ob ∧ ob ≠ .gone) {base : Nat} (hfree : ∀ i, i < hp'.length - ks.length → hp (base + i) = none) (hle : ks.length ≤ hp'.length)
    (hclean : lent = [] ∨ CleanP r hp') (keep : Nat → Prop) (hkeep : ∀ k, keep k → cx.bl k ≠ none) (hkg : ∀ k ∈ gs, ¬ keep k) :
    Does P f vals.toArray w fun e w' => ∃ v cx2, e = .returned v ∧ Ext cx w cx2 w' ∧ Fr keep cx w cx2 w' ∧ Mem cx2 w' (updHp (updHp hp (goneL gs)) (outHp (backN ks (len ks) base) 0 hp')) ∧ RelV cx2 w' (ren (backN ks (len ks) base) r) v := by
  have hkin : ∀ k ∈ ks, ∃ j, ks[j]? = some k := fun k hk => List.mem_iff_getElem?.1 hk
  -- the blocks that go in
  have hbk : ∀ (j k : Nat), ks[j]? = some k → ∃ b C s, cx.bl k = some (BL.at b C) ∧ cx.O b ∧ Holds cx w b C (OB.cells s) ∧ hpi[j]? = some (OB.cells (ren (idx (ks ++ gs)) s)) ∧ (∀ k, ment k s = true → k ∈ ks ++ gs) ∧ hp k = some (OB.cells s) := by
    intro j k hj
    obtain ⟨s, h1, h2, h3⟩ := hkc j k hj
    rcases hm.live k _ h1 with ⟨b, C, h4, h5, h6⟩ | ⟨_, E, h4⟩
    · exact ⟨b, C, s, h4, h5, h6, h2, h3, h1⟩
    · cases h4
  have hgin : ∀ k ∈ gs, ∃ j, gs[j]? = some k := fun k hk => List.mem_iff_getElem?.1 hk
  -- every block that goes in stands in the caller's memory
  have hall : ∀ (j k : Nat), (ks ++ gs)[j]? = some k → ∃ ob, hp k = some ob ∧ ob ≠ .gone ∧ hpi[j]? = some (renOB (idx (ks ++ gs)) ob) ∧ ((∃ s, ob = .cells s ∧ ∀ k, ment k s = true → k ∈ ks ++ gs) ∨ ∃ x E rows, ob = .arr x E rows) := by
    intro j k hj
    rcases Nat.lt_or_ge j ks.length with hl | hl
    · rw [List.getElem?_append_left hl] at hj
      obtain ⟨s, h1, h2, h3⟩ := hkc j k hj
      exact ⟨_, h1, by simp, h2, .inl ⟨s, rfl, h3⟩⟩
    · rw [List.getElem?_append_right hl] at hj
      obtain ⟨x, E, rows, h1, h2⟩ := hgc _ k hj
      rw [show ks.length + (j - ks.length) = j by omega] at h2
      exact ⟨_, h1, by simp, h2, .inr ⟨x, E, rows, rfl⟩⟩
  have hmi : Mem ⟨fun j => ((ks ++ gs)[j]?).bind cx.bl, (cx.minus lent).O⟩ w (nthB hpi) := by
    have hlen : hpi.length = (ks ++ gs).length := by rw [hks, List.length_append]
    refine ⟨fun j ob hj => ?_, fun j j' ob1 ob2 b C1 C2 h1 h2 _ _ b1 b2 => ?_, fun j hj => ?_, fun b hb => hm.lt b hb.1⟩
    · rw [nthB_eq] at hj
      have hjl : j < (ks ++ gs).length := by rw [← hlen]; exact (List.getElem?_eq_some_iff.1 hj).1
      obtain ⟨ob2, h1, h2, h3, h4⟩ := hall j _ (List.getElem?_eq_getElem hjl)
      rw [h3] at hj
      cases hj
      have away : ∀ b C, cx.bl (ks ++ gs)[j] = some (.at b C) → ∀ k ∈ lent, ∀ C', cx.bl k ≠ some (.at b C') := by
        intro b C hb k hk C' hb'
        obtain ⟨ob', ho1, ho2⟩ := hlive k hk
        have : (ks ++ gs)[j] = k := hm.inj _ k _ ob' b C C' h1 ho1 h2 ho2 hb hb'
        exact hdisj _ (List.getElem_mem hjl) (this ▸ hk)
      have hbe : (⟨fun j => ((ks ++ gs)[j]?).bind cx.bl, (cx.minus lent).O⟩ : Cx).bl j = cx.bl (ks ++ gs)[j] := by simp only [List.getElem?_eq_getElem hjl, Option.bind_some]
      rcases h4 with ⟨s, rfl, hn⟩ | ⟨x, E, rows, rfl⟩
      · rcases hm.live _ _ h1 with ⟨b, C, h5, h6, vs, T, h7, h8⟩ | ⟨_, E, h5⟩
        · refine .inl ⟨b, C, by rw [hbe]; exact h5, ⟨h6, away b C h5⟩, vs, T, h7, ?_⟩
          exact h8.ren ⟨fun k x hm hx => by simp only [idx_get (ks ++ gs) k (hn k hm), Option.bind_some]; exact hx, fun _ _ h => h.1⟩
        · cases h5
      · rcases hm.live _ _ h1 with ⟨b, C, h5, h6, vs, T, h7, h8, h9, h10⟩ | ⟨h5, E', h6⟩
        · refine .inl ⟨b, C, by rw [hbe]; exact h5, ⟨h6, away b C h5⟩, vs, T, h7, h8, h9, fun i s hs => ?_⟩
          exact (h10 i s hs).mono ⟨fun _ _ h => (by cases h), fun _ _ _ => rfl, fun _ h => .inl h.1⟩
        · exact .inr ⟨by rw [hbe]; exact h5, E', h6⟩
    · have e1 : ∀ i ob, nthB hpi i = some ob → i < (ks ++ gs).length := fun i ob hi => by rw [nthB_eq] at hi; rw [← hlen]; exact (List.getElem?_eq_some_iff.1 hi).1
      have l1 := e1 j ob1 h1
      have l2 := e1 j' ob2 h2
      obtain ⟨o1, g1, n1, _⟩ := hall j _ (List.getElem?_eq_getElem l1)
      obtain ⟨o2, g2, n2, _⟩ := hall j' _ (List.getElem?_eq_getElem l2)
      simp only [List.getElem?_eq_getElem l1, List.getElem?_eq_getElem l2, Option.bind_some] at b1 b2
      have := hm.inj _ _ _ _ b C1 C2 g1 g2 n1 n2 b1 b2
      exact (List.getElem_inj hnd).1 this
    · rw [nthB_eq] at hj
      have : (ks ++ gs).length ≤ j := by rw [← hlen]; exact List.getElem?_eq_none_iff.1 hj
      simp only [List.getElem?_eq_none this, Option.bind_none]
  have hgi : Glob ⟨fun j => ((ks ++ gs)[j]?).bind cx.bl, (cx.minus lent).O⟩ w := fun g s hg => by
    obtain ⟨a1, a2, a3, a4⟩ := hgl g s hg
    exact ⟨a1, fun h => a2 h.1, fun k C h => by
      obtain ⟨k', _, h'⟩ := Option.bind_eq_some_iff.1 h
      exact a3 k' C h', a4⟩
  refine (hsp _ w vals hgi hmi hv).mono fun e w' ⟨cx', v, he, hr, hm', hf⟩ => ?_
  -- the caller's context behind the call
  have hn0 : len ks = ks.length := len_eq ks
  let N := hp'.length - ks.length
  let cx2 : Cx := ⟨fun j => if base ≤ j ∧ j < base + N then cx'.bl (ks.length + (j - base)) else cx.bl j, fun b => (cx.O b ∧ ∀ k ∈ gs, ∀ C, cx.bl k ≠ some (.at b C)) ∨ cx'.O b⟩
  -- a block of the callee that may have moved is one of the given ones
  have hmoved : ∀ (j : Nat) (b C : Nat), (¬ isCells (nthB hpi) j ∨ ks.length ≤ j) → ((ks ++ gs)[j]?).bind cx.bl = some (.at b C) → ∃ k ∈ gs, cx.bl k = some (.at b C) := by
    intro j b C hj hb
    cases hkj : (ks ++ gs)[j]? with
    | none => simp [hkj] at hb
    | some k =>
      simp only [hkj, Option.bind_some] at hb
      rcases Nat.lt_or_ge j ks.length with hl | hl
      · exfalso
        rcases hj with hj | hj
        · rw [List.getElem?_append_left hl] at hkj
          obtain ⟨s, _, h2, _⟩ := hkc j k hkj
          exact hj (isCells_kind ⟨_, h2⟩)
        · omega
      · rw [List.getElem?_append_right hl] at hkj
        exact ⟨k, List.mem_of_getElem? hkj, hb⟩
  have hnew : ∀ j, base ≤ j ∧ j < base + N → hp j = none := fun j ⟨h1, h2⟩ => by
    have := hfree (j - base) (by omega)
    rwa [show base + (j - base) = j by omega] at this
  have hold : ∀ j, hp j ≠ none → ¬ (base ≤ j ∧ j < base + N) := fun j h1 h2 => h1 (hnew j h2)
  have hsize := hf.le
  have hOin : ∀ b, b < w.heap.size → cx'.O b → cx.O b := fun b hb h => by
    rcases hf.own b h with h | h
    · exact h.1
    · omega
  have hsame : ∀ b, b < w.heap.size → (∀ k ∈ ks ++ gs, ∀ C, cx.bl k ≠ some (.at b C)) → w'.heap[b]? = w.heap[b]? := fun b hb hn => hf.same b hb fun j C hj => by
    simp only at hj
    cases hkj : (ks ++ gs)[j]? with
    | none => simp [hkj] at hj
    | some k => rw [hkj, Option.bind_some] at hj; exact hn k (List.mem_of_getElem? hkj) C hj
  have hext : Ext cx w cx2 w' := by
    refine ⟨fun k x hk => ?_, fun b hb hO => hsame b hb fun k hk C hc => ?_, fun b hb => ?_⟩
    · have : hp k ≠ none := fun h => by rw [hm.dom k h] at hk; cases hk
      simp only [cx2, if_neg (hold k this)]; exact hk
    · obtain ⟨j, hj⟩ := List.mem_iff_getElem?.1 hk
      obtain ⟨ob, h4, h5, _⟩ := hall j k hj
      exact hO (live_at hm h4 hc h5).1
    · rcases hb with hb | hb
      · exact .inl hb.1
      · rcases Nat.lt_or_ge b w.heap.size with h | h
        · exact .inl (hOin b h hb)
        · exact .inr h
  have hgk : ∀ (j k : Nat), ks[j]? = some k → backN ks (len ks) base j = k := by
    intro j k hj
    have hjl : j < ks.length := (List.getElem?_eq_some_iff.1 hj).1
    have : Nat.blt j (len ks) = true := by simp [hn0, hjl]
    simp only [backN, this, nthN_eq, List.getD, hj]; rfl
  have hgn : ∀ i, backN ks (len ks) base (ks.length + i) = base + i := by
    intro i
    have : Nat.blt (ks.length + i) ks.length = false := by
      cases hb : Nat.blt (ks.length + i) ks.length with
      | false => rfl
      | true => exact absurd (show ks.length + i < ks.length by simpa using hb) (by omega)
    simp only [backN, hn0, this, Nat.add_sub_cancel_left]
  have hblk : ∀ (j k : Nat), ks[j]? = some k → cx'.bl j = cx.bl k := by
    intro j k hj
    obtain ⟨b, C, s, h4, h5, h6, h7, h8, h9⟩ := hbk j k hj
    rw [hf.keep j (isCells_kind ⟨_, h7⟩)]
    have hjl : j < ks.length := (List.getElem?_eq_some_iff.1 hj).1
    simp only [List.getElem?_append_left hjl, hj, Option.bind_some]
  have hbl2 : ∀ j x, cx'.bl j = some x → cx2.bl (backN ks (len ks) base j) = some x := by
    intro j x hx
    rcases Nat.lt_or_ge j ks.length with hj | hj
    · have hjk := List.getElem?_eq_getElem hj
      rw [hgk j _ hjk]
      obtain ⟨b, C, s, h4, h5, h6, h7, h8, h9⟩ := hbk j _ hjk
      simp only [cx2, if_neg (hold _ (by rw [h9]; simp))]
      rw [← hblk j _ hjk]; exact hx
    · obtain ⟨i, rfl⟩ : ∃ i, j = ks.length + i := ⟨j - ks.length, by omega⟩
      rw [hgn i]
      have hiN : i < N := by
        have : nthB hp' (ks.length + i) ≠ none := fun h => by rw [hm'.dom _ h] at hx; cases hx
        rw [nthB_eq] at this
        have : ¬ hp'.length ≤ ks.length + i := fun h => this (List.getElem?_eq_none_iff.2 h)
        omega
      simp only [cx2]
      rw [if_pos (by omega), show ks.length + (base + i - base) = ks.length + i by omega]
      exact hx
  -- ownership: nothing that the result names is among the caller's own
  have hOeq : lent = [] → ∀ b, b < w'.heap.size → cx2.O b → cx'.O b := by
    intro hl b hb h
    rcases h with h | h
    · rcases hf.old b (hm.lt b h.1) ⟨h.1, fun k hk => by rw [hl] at hk; cases hk⟩ with h1 | ⟨k, C, h1, h2⟩
      · exact h1
      · exfalso
        obtain ⟨k2, g1, g2⟩ := hmoved k b C (.inl h1) h2
        exact h.2 k2 g1 C g2
    · exact h
  have hval : RelV cx2 w' (ren (backN ks (len ks) base) r) v := by
    rcases hclean with hl | hcl
    · exact hr.ren ⟨fun k x _ hx => hbl2 k x hx, hOeq hl⟩
    · have h1 : RelV ⟨cx'.bl, cx'.O⟩ w' r v := hr
      have h2 := (h1.ren (g := backN ks (len ks) base) (cx' := ⟨cx2.bl, cx'.O⟩) ⟨fun k x _ hx => hbl2 k x hx, fun b _ h => h⟩)
      have hc2 : cl2 (ren (backN ks (len ks) base) r) = true := by
        rw [ren_cl2]; exact hcl.1
      exact h2.clean hc2 fun _ _ h => h
  refine ⟨v, cx2, he, hext, ?_, ?_, hval⟩
  · refine ⟨hf.le, fun b hb hn => hsame b hb fun k _ C => hn k C, hext.own, fun b _ h => ?_, fun j b C hj => ?_, fun j hj => ?_, hf.wk⟩
    · by_cases hex : ∃ k ∈ gs, ∃ C, cx.bl k = some (.at b C)
      · obtain ⟨k, hk, C, hc⟩ := hex
        exact .inr ⟨k, C, hkg k hk, hc⟩
      · exact .inl (.inl ⟨h, fun k hk C hc => hex ⟨k, hk, C, hc⟩⟩)
    · simp only [cx2] at hj
      split at hj
      · rename_i hr2
        rcases hf.blk _ b C hj with ⟨k', h0, h⟩ | h
        · obtain ⟨k2, g1, g2⟩ := hmoved k' b C (by rcases h0 with rfl | h0; · exact .inr (by omega)
                                                   · exact .inl h0) h
          exact .inl ⟨k2, .inr (hkg k2 g1), g2⟩
        · exact .inr h
      · exact .inl ⟨j, .inl rfl, hj⟩
    · have : hp j ≠ none := fun h => hkeep j hj (hm.dom j h)
      simp only [cx2, if_neg (hold j this)]
  · have hbl3 : ∀ i, i < hp'.length → cx2.bl (backN ks (len ks) base i) = cx'.bl i := by
      intro i hi
      rcases Nat.lt_or_ge i ks.length with hj | hj
      · have hjk := List.getElem?_eq_getElem hj
        rw [hgk i _ hjk]
        obtain ⟨b, C, s, h4, h5, h6, h7, h8, h9⟩ := hbk i _ hjk
        simp only [cx2, if_neg (hold _ (by rw [h9]; simp))]
        rw [← hblk i _ hjk]
      · obtain ⟨j, rfl⟩ : ∃ j, i = ks.length + j := ⟨i - ks.length, by omega⟩
        rw [hgn j]
        simp only [cx2]
        rw [if_pos (by omega), show ks.length + (base + j - base) = ks.length + j by omega]
    have hkey : ∀ i, i < hp'.length → (i < ks.length ∧ ∃ k, ks[i]? = some k ∧ backN ks (len ks) base i = k) ∨ (ks.length ≤ i ∧ backN ks (len ks) base i = base + (i - ks.length)) := by
      intro i hi
      rcases Nat.lt_or_ge i ks.length with hj | hj
      · exact .inl ⟨hj, _, List.getElem?_eq_getElem hj, hgk i _ (List.getElem?_eq_getElem hj)⟩
      · refine .inr ⟨hj, ?_⟩
        have := hgn (i - ks.length)
        rwa [show ks.length + (i - ks.length) = i by omega] at this
    have hgi : ∀ i j, i < hp'.length → j < hp'.length → backN ks (len ks) base i = backN ks (len ks) base j → i = j := by
      intro i j hi hj hij
      have cross : ∀ i j k, i < hp'.length → ks[i]? = some k → backN ks (len ks) base i = k → ks.length ≤ j → j < hp'.length → backN ks (len ks) base j = base + (j - ks.length) → backN ks (len ks) base i ≠ backN ks (len ks) base j := by
        intro i j k _ hk h1 h2 h3 h4 h5
        obtain ⟨_, _, s, _, _, _, _, _, h9⟩ := hbk i k hk
        rw [h1, h4] at h5
        rw [h5, hfree _ (by omega)] at h9
        cases h9
      rcases hkey i hi with ⟨h1, k1, h2, h3⟩ | ⟨h1, h2⟩ <;> rcases hkey j hj with ⟨g1, k2, g2, g3⟩ | ⟨g1, g2⟩
      · rw [h3, g3] at hij
        subst hij
        obtain ⟨p1, q1⟩ := List.getElem?_eq_some_iff.1 h2
        obtain ⟨p2, q2⟩ := List.getElem?_eq_some_iff.1 g2
        exact (List.getElem_inj (List.nodup_append.1 hnd).1).1 (q1.trans q2.symm)
      · exact absurd hij (cross i j k1 hi h2 h3 g1 hj g2)
      · exact absurd hij.symm (cross j i k2 hj g2 g3 h1 hi h2)
      · rw [h2, g2] at hij; omega
    have hkeys : ((outHp (backN ks (len ks) base) 0 hp').map Prod.fst).Nodup := by
      rw [outHp_fst, List.Nodup, List.pairwise_map]
      refine (List.nodup_range' (s := 0) (n := hp'.length)).imp_of_mem fun {i j} h1 h2 hne heq => hne ?_
      simp only [List.mem_range'_1] at h1 h2
      exact hgi i j (by omega) (by omega) heq
    obtain ⟨hget, hnot⟩ := updHp_get _ (updHp hp (goneL gs)) hkeys
    have hcase : ∀ k ob, updHp (updHp hp (goneL gs)) (outHp (backN ks (len ks) base) 0 hp') k = some ob → (∃ i x, i < hp'.length ∧ hp'[i]? = some x ∧ k = backN ks (len ks) base i ∧ ob = renOB (backN ks (len ks) base) x) ∨
        (((k ∈ gs ∧ ob = .gone) ∨ (k ∉ gs ∧ hp k = some ob)) ∧ ∀ i, i < hp'.length → k ≠ backN ks (len ks) base i) := by
      intro k ob hk
      by_cases hm2 : k ∈ (outHp (backN ks (len ks) base) 0 hp').map Prod.fst
      · obtain ⟨⟨k', ob'⟩, h1, h2⟩ := List.mem_map.1 hm2
        simp only at h2
        subst h2
        rw [hget _ _ h1] at hk
        cases hk
        obtain ⟨i, x, h3, h4, h5⟩ := outHp_inv _ _ _ _ _ h1
        exact .inl ⟨i, x, (List.getElem?_eq_some_iff.1 h3).1, h3, by simpa using h4, h5⟩
      · rw [hnot k hm2, goneL_get] at hk
        refine .inr ⟨by
          split at hk
          · rename_i hg; cases hk; exact .inl ⟨hg, rfl⟩
          · rename_i hg; exact .inr ⟨hg, hk⟩, fun i hi he => hm2 ?_⟩
        have := outHp_mem (backN ks (len ks) base) hp' 0 i _ (List.getElem?_eq_getElem hi)
        rw [Nat.zero_add, ← he] at this
        exact List.mem_map.2 ⟨_, this, rfl⟩
    have hnk : ∀ k, (∀ i, i < hp'.length → k ≠ backN ks (len ks) base i) → k ∉ ks ∧ ¬ (base ≤ k ∧ k < base + N) := by
      intro k hk
      refine ⟨fun hmem => ?_, fun hr2 => ?_⟩
      · obtain ⟨j, hj⟩ := hkin k hmem
        have hjl : j < ks.length := (List.getElem?_eq_some_iff.1 hj).1
        exact hk j (by omega) (hgk j k hj).symm
      · have := hgn (k - base)
        exact hk (ks.length + (k - base)) (by omega) (by rw [this]; omega)
    have hOb : lent = [] → Ext ⟨fun _ => none, cx'.O⟩ w' ⟨fun _ => none, cx2.O⟩ w' := fun hl => ⟨fun _ _ h => (by cases h), fun _ _ _ => rfl, fun b h => by
      rcases Nat.lt_or_ge b w'.heap.size with hb | hb
      · exact .inl (hOeq hl b hb h)
      · exact .inr hb⟩
    refine ⟨fun k ob hk => ?_, fun j j' ob1 ob2 b C1 C2 h1 h2 n1 n2 b1 b2 => ?_, fun j hj => ?_, fun b hb => ?_⟩
    · rcases hcase k ob hk with ⟨i, x, hi, hx, rfl, rfl⟩ | ⟨⟨hkgs, rfl⟩ | ⟨hkgs, hk0⟩, hne⟩
      · have hl := hm'.live i x (by rw [nthB_eq]; exact hx)
        cases x with
        | gone => trivial
        | cells s =>
          rcases hl with ⟨b, C, h1, h2, vs, T, h3, h4⟩ | ⟨_, E, h2⟩
          · refine .inl ⟨b, C, by rw [hbl3 i hi]; exact h1, .inr h2, vs, T, h3, ?_⟩
            rcases hclean with hl0 | hcl
            · exact h4.ren ⟨fun k x _ hx => hbl2 k x hx, hOeq hl0⟩
            · have hc : cl s = true := hcl.2 _ (List.mem_of_getElem? hx)
              have h5 := (h4.ren (g := backN ks (len ks) base) (cx' := ⟨cx2.bl, cx'.O⟩) ⟨fun k x _ hx => hbl2 k x hx, fun b _ h => h⟩)
              exact h5.clean (by rw [ren_cl2]; exact cl_cl2 hc) fun _ _ h => h
          · cases h2
        | arr x E rows =>
          rcases hl with ⟨b, C, h1, h2, vs, T, h3, h4, h5, h6⟩ | ⟨h1, E', h2⟩
          · refine .inl ⟨b, C, by rw [hbl3 i hi]; exact h1, .inr h2, vs, T, h3, h4, h5, fun j s hs => ?_⟩
            rcases hclean with hl0 | hcl
            · exact (h6 j s hs).mono (hOb hl0)
            · have hc : ∀ s ∈ rows, cl s = true := hcl.2 _ (List.mem_of_getElem? hx)
              exact (h6 j s hs).clean (cl_cl2 (hc s (List.mem_of_getElem? hs))) fun _ _ h => (by cases h)
          · exact .inr ⟨by rw [hbl3 i hi]; exact h1, E', h2⟩
      · trivial
      · obtain ⟨hnks, hnr⟩ := hnk k hne
        have hl := hm.live k ob hk0
        have hnall : k ∉ ks ++ gs := fun h => (List.mem_append.1 h).elim hnks hkgs
        have hOk : ∀ b C, cx.bl k = some (.at b C) → ob ≠ .gone → cx.O b → cx2.O b := fun b C hb hog hO => .inl ⟨hO, fun k' hk' C' hb' => by
          obtain ⟨j, hj⟩ := hgin k' hk'
          obtain ⟨x, E, rows, h9, _⟩ := hgc j k' hj
          have := hm.inj k k' _ _ b C C' hk0 h9 hog (by simp) hb hb'
          exact hkgs (this ▸ hk')⟩
        have hsm : ∀ b C, cx.bl k = some (.at b C) → ob ≠ .gone → w'.heap[b]? = w.heap[b]? := by
          intro b C hb hog
          refine hsame b (hm.lt b (live_at hm hk0 hb hog).1) fun k' hk' C' hb' => ?_
          obtain ⟨j, hj⟩ := List.mem_iff_getElem?.1 hk'
          obtain ⟨ob', h9, h10, _⟩ := hall j k' hj
          have := hm.inj k k' _ _ b C C' hk0 h9 hog h10 hb hb'
          exact hnall (this ▸ hk')
        cases ob with
        | gone => trivial
        | cells s =>
          rcases hl with ⟨b, C, h1, h2, h3⟩ | ⟨_, E, h2⟩
          · exact .inl ⟨b, C, hext.bl _ _ h1, hOk b C h1 (by simp) h2, h3.mono hext (hsm b C h1 (by simp))⟩
          · cases h2
        | arr x E rows =>
          rcases hl with ⟨b, C, h1, h2, h3⟩ | ⟨h1, E', h2⟩
          · exact .inl ⟨b, C, hext.bl _ _ h1, hOk b C h1 (by simp) h2, h3.mono hext (hsm b C h1 (by simp))⟩
          · exact .inr ⟨hext.bl _ _ h1, E', h2⟩
    · have renG : ∀ x : OB, renOB (backN ks (len ks) base) x ≠ .gone → x ≠ .gone := fun x h e => h (by rw [e]; rfl)
      have cross : ∀ k ob i x C C', k ∉ gs → hp k = some ob → ob ≠ .gone → (∀ i, i < hp'.length → k ≠ backN ks (len ks) base i) → i < hp'.length → hp'[i]? = some x → cx2.bl k = some (.at b C) → cx2.bl (backN ks (len ks) base i) = some (.at b C') → False := by
        intro k ob i x C C' hkgs hk hog hne hi hx b1 b2
        obtain ⟨hnks, hnr⟩ := hnk k hne
        simp only [cx2, if_neg hnr] at b1
        rw [hbl3 i hi] at b2
        have hblt := hm.lt b (live_at hm hk b1 hog).1
        rcases Nat.lt_or_ge i ks.length with hj | hj
        · have hjk := List.getElem?_eq_getElem hj
          obtain ⟨_, _, s, _, _, _, _, _, h9⟩ := hbk i _ hjk
          rw [hblk i _ hjk] at b2
          have := hm.inj k _ _ _ b C C' hk h9 hog (by simp) b1 b2
          exact hnks (this ▸ List.getElem_mem hj)
        · rcases hf.blk i b C' b2 with ⟨k', h0, h⟩ | h
          · obtain ⟨k2, g1, g2⟩ := hmoved k' b C' (by rcases h0 with rfl | h0; · exact .inr hj
                                                      · exact .inl h0) h
            obtain ⟨j2, hj2⟩ := hgin k2 g1
            obtain ⟨x2, E2, rows2, h9, _⟩ := hgc j2 k2 hj2
            have := hm.inj k k2 _ _ b C C' hk h9 hog (by simp) b1 g2
            exact hkgs (this ▸ g1)
          · omega
      rcases hcase j ob1 h1 with ⟨i, x, hi, hx, rfl, rfl⟩ | ⟨⟨_, e1⟩ | ⟨hg1, hk1⟩, hne1⟩ <;> rcases hcase j' ob2 h2 with ⟨i', x', hi', hx', rfl, rfl⟩ | ⟨⟨_, e2⟩ | ⟨hg2, hk2⟩, hne2⟩ <;> first | exact absurd e1 n1 | exact absurd e2 n2 | skip
      · rw [hbl3 i hi] at b1
        rw [hbl3 i' hi'] at b2
        have := hm'.inj i i' x x' b C1 C2 (by rw [nthB_eq]; exact hx) (by rw [nthB_eq]; exact hx') (renG x n1) (renG x' n2) b1 b2
        rw [this]
      · exact (cross j' ob2 i x C2 C1 hg2 hk2 n2 hne2 hi hx b2 b1).elim
      · exact (cross j ob1 i' x' C1 C2 hg1 hk1 n1 hne1 hi' hx' b1 b2).elim
      · obtain ⟨_, hnr1⟩ := hnk j hne1
        obtain ⟨_, hnr2⟩ := hnk j' hne2
        simp only [cx2, if_neg hnr1] at b1
        simp only [cx2, if_neg hnr2] at b2
        exact hm.inj j j' ob1 ob2 b C1 C2 hk1 hk2 n1 n2 b1 b2
    · have hnm : j ∉ (outHp (backN ks (len ks) base) 0 hp').map Prod.fst := fun hmem => by
        obtain ⟨⟨k', ob'⟩, h1, h2⟩ := List.mem_map.1 hmem
        simp only at h2
        subst h2
        rw [hget _ _ h1] at hj
        cases hj
      rw [hnot j hnm, goneL_get] at hj
      split at hj
      · cases hj
      rename_i hjg
      have hne : ∀ i, i < hp'.length → j ≠ backN ks (len ks) base i := fun i hi he => hnm (by
        have := outHp_mem (backN ks (len ks) base) hp' 0 i _ (List.getElem?_eq_getElem hi)
        rw [Nat.zero_add, ← he] at this
        exact List.mem_map.2 ⟨_, this, rfl⟩)
      simp only [cx2, if_neg (hnk j hne).2]
      exact hm.dom j hj
    · rcases hb with hb | hb
      · exact Nat.lt_of_lt_of_le (hm.lt b hb.1) hf.le
      · exact hm'.lt b hb
end Go.Fw

/- The executor is sound: calls of functions. -/
namespace Go.Fw

theorem inHp_sound {h : List OB} : ∀ {ks : List Nat} {K : List OB → Prop}, inHp h ks K → ∃ hpi, K hpi ∧ hpi.length = ks.length ∧ ∀ (j k : Nat), ks[j]? = some k → ∃ s, nthB h k = some (OB.cells s) ∧ hpi[j]? = some (OB.cells s) ∧ noRef s = true
  | [], K, hk => ⟨[], hk, rfl, fun j k h => by simp at h⟩
  | k :: r, K, hk => by
    simp only [inHp] at hk
    split at hk
    · rename_i s hs
      split at hk
      · rename_i hn
        obtain ⟨l, h1, h2, h3⟩ := inHp_sound hk
        refine ⟨_, h1, by simp [h2], fun j k' hj => ?_⟩
        cases j with
        | zero => simp at hj; subst hj; exact ⟨s, hs, rfl, hn⟩
        | succ j => simp at hj; obtain ⟨s', h4, h5, h6⟩ := h3 j k' hj; exact ⟨s', h4, by simpa using h5, h6⟩
      · exact hk.elim
    · exact hk.elim

theorem RelVL.app {cx w l vs l' vs'} (h : RelVL cx w l vs) (h' : RelVL cx w l' vs') : RelVL cx w (Fw.app l l') (vs ++ vs') := by
  induction h with
  | nil => exact h'
  | cons h1 _ ih => exact .cons h1 ih
theorem relVL_of {cx w} : ∀ {l : List SV} {vs : List Value}, vs.length = l.length → (∀ (i : Nat) s x, l[i]? = some s → vs[i]? = some x → RelV1 cx w s x) → RelVL cx w l vs
  | [], [], _, _ => .nil
  | [], _ :: _, h, _ => by simp at h
  | _ :: _, [], h, _ => by simp at h
  | s :: r, x :: xs, h, hr => .cons (hr 0 s x rfl rfl) (relVL_of (by simpa using h) fun i s x h1 h2 => hr (i + 1) s x (by simpa using h1) (by simpa using h2))

theorem updHp_append : ∀ (a b : List (Nat × OB)) (hp : Nat → Option OB), updHp hp (a ++ b) = updHp (updHp hp a) b
  | [], _, _ => rfl
  | (_, _) :: a, b, hp => by simp only [List.cons_append, updHp, updHp_append a b]
theorem hasN_mem {k : Nat} : ∀ {l : List Nat}, hasN k l = true → k ∈ l
  | [], h => by cases h
  | j :: r, h => by
    simp only [hasN] at h
    split at h
    · rename_i hb; exact List.mem_cons.2 (.inl (Nat.eq_of_beq_eq_true hb).symm)
    · exact List.mem_cons_of_mem _ (hasN_mem h)
theorem subN_mem {l : List Nat} : ∀ {ks : List Nat}, subN ks l = true → ∀ k ∈ ks, k ∈ l
  | [], _, k, hk => by cases hk
  | j :: r, h, k, hk => by
    simp only [subN] at h
    split at h
    · rename_i hj
      rcases List.mem_cons.1 hk with rfl | hk
      · exact hasN_mem hj
      · exact subN_mem h k hk
    · cases h
theorem boxRefs_nodup {hp : List OB} : ∀ {ks acc : List Nat}, acc.Nodup → (boxRefs hp ks acc).Nodup
  | [], _, h => h
  | k :: r, acc, h => by
    simp only [boxRefs]
    split
    · exact boxRefs_nodup (refs_nodup _ _ h)
    · exact boxRefs_nodup h
theorem boxRefs_mem {hp : List OB} {k : Nat} : ∀ {ks acc : List Nat}, k ∈ acc → k ∈ boxRefs hp ks acc
  | [], _, h => h
  | j :: r, acc, h => by
    simp only [boxRefs]
    split
    · exact boxRefs_mem (refs_mem _ _ (.inr h))
    · exact boxRefs_mem h
theorem refsC_nodup (hp : List OB) (l : List SV) : (refsC hp l).Nodup := boxRefs_nodup (refss_nodup l [] List.nodup_nil)
theorem refsC_mem {hp : List OB} {l : List SV} {k : Nat} (h : ments k l = true) : k ∈ refsC hp l := boxRefs_mem (refss_mem l [] (.inl h))
theorem all_mem {s : SV} {all : List Nat} (h : subN (refs s []) all = true) : ∀ k, ment k s = true → k ∈ all := fun k hk => subN_mem h k (refs_mem s [] (.inl hk))
theorem inHpG_sound {h : List OB} {n0 : Sz} {all : List Nat} : ∀ {rs : List Nat} {K : List Nat → List Nat → List OB → List OB → Prop}, inHpG h n0 all rs K → rs.Nodup → ∃ ks gs hc ha, K ks gs hc ha ∧ (∀ k, k ∈ rs ↔ k ∈ ks ++ gs) ∧ (ks ++ gs).Nodup ∧ hc.length = ks.length ∧ ha.length = gs.length ∧
    (∀ (j k : Nat), ks[j]? = some k → ∃ s, nthB h k = some (OB.cells s) ∧ hc[j]? = some (OB.cells s) ∧ subN (refs s []) all = true) ∧ (∀ (j k : Nat), gs[j]? = some k → ∃ x E rows, nthB h k = some (OB.arr x E rows) ∧ ha[j]? = some (OB.arr x E rows)) ∧ ∀ k ∈ gs, freeB n0 k = true
  | [], K, hk, _ => ⟨[], [], [], [], hk, by simp, by simp, rfl, rfl, fun j k h => by simp at h, fun j k h => by simp at h, fun k h => by cases h⟩
  | k :: r, K, hk, hn => by
    rw [List.nodup_cons] at hn
    simp only [inHpG] at hk
    split at hk
    · rename_i s hs
      split at hk
      · rename_i hnr
        obtain ⟨ks, gs, hc, ha, h1, h2, h3, h4, h5, h6, h7, h8⟩ := inHpG_sound hk hn.2
        refine ⟨_, _, _, _, h1, fun k' => by simp [h2 k'], ?_, by simp [h4], h5, fun j k' hj => ?_, h7, h8⟩
        · rw [List.cons_append, List.nodup_cons]; exact ⟨fun h => hn.1 ((h2 k).2 h), h3⟩
        · cases j with
          | zero => simp at hj; subst hj; exact ⟨s, hs, rfl, hnr⟩
          | succ j => simp at hj; obtain ⟨s', a, b, c⟩ := h6 j k' hj; exact ⟨s', a, by simpa using b, c⟩
      · exact hk.elim
    · rename_i x E rows hs
      split at hk
      · rename_i hb
        obtain ⟨ks, gs, hc, ha, h1, h2, h3, h4, h5, h6, h7, h8⟩ := inHpG_sound hk hn.2
        refine ⟨_, _, _, _, h1, fun k' => ?_, ?_, h4, by simp [h5], h6, fun j k' hj => ?_, fun k' hk' => ?_⟩
        · simp only [List.mem_cons, h2 k', List.mem_append]
          exact ⟨fun h => by rcases h with h | h | h <;> simp [h], fun h => by rcases h with h | h | h <;> simp [h]⟩
        · have h9 : k ∉ ks ++ gs := fun h => hn.1 ((h2 k).2 h)
          simp only [List.mem_append, not_or] at h9
          rw [List.nodup_append] at h3 ⊢
          refine ⟨h3.1, List.nodup_cons.2 ⟨h9.2, h3.2.1⟩, fun a ha b hb => ?_⟩
          rcases List.mem_cons.1 hb with rfl | hb
          · exact fun e => h9.1 (e ▸ ha)
          · exact h3.2.2 a ha b hb
        · cases j with
          | zero => simp at hj; subst hj; exact ⟨x, E, rows, hs, rfl⟩
          | succ j => simp at hj; obtain ⟨x', E', rows', a, b⟩ := h7 j k' hj; exact ⟨x', E', rows', a, by simpa using b⟩
        · rcases List.mem_cons.1 hk' with rfl | hk'
          · exact hb
          · exact h8 k' hk'
      · exact hk.elim
    · exact hk.elim
theorem lendG_sound {h : List OB} {g : List Nat} : ∀ {l : List SV} {j : Nat} {K : List SV → List Nat → Prop}, lendG h g j l K → ∃ l' ks, K l' ks ∧ (∀ k ∈ ks, ∃ ob, nthB h k = some ob ∧ ob ≠ .gone) ∧
    ∀ (cx : Cx) (w : World) (vals : List Value) (hp' : Nat → Option OB) (kk : List Nat), (∀ k ∈ ks, hp' k = nthB h k) → (∀ k ∈ ks, k ∈ kk) → Mem cx w hp' → RelVL cx w l vals → RelVL (cx.minus kk) w l' vals
  | [], j, K, hk => ⟨[], [], hk, fun _ h => (by cases h), fun cx w vals hp' kk _ _ _ hr => by cases hr; exact .nil⟩
  | s :: r, j, K, hk => by
    have rest : ∀ {s' : SV} {ks0 : List Nat}, lendG h g (j + 1) r (fun l ks => K (s' :: l) (app ks0 ks)) → (∀ k ∈ ks0, ∃ ob, nthB h k = some ob ∧ ob ≠ .gone) →
        (∀ (cx : Cx) (w : World) (v : Value) (hp' : Nat → Option OB) (kk : List Nat), (∀ k ∈ ks0, hp' k = nthB h k) → (∀ k ∈ ks0, k ∈ kk) → Mem cx w hp' → RelV1 cx w s v → RelV1 (cx.minus kk) w s' v) →
        ∃ l' ks, K l' ks ∧ (∀ k ∈ ks, ∃ ob, nthB h k = some ob ∧ ob ≠ .gone) ∧ ∀ (cx : Cx) (w : World) (vals : List Value) (hp' : Nat → Option OB) (kk : List Nat), (∀ k ∈ ks, hp' k = nthB h k) → (∀ k ∈ ks, k ∈ kk) → Mem cx w hp' → RelVL cx w (s :: r) vals → RelVL (cx.minus kk) w l' vals := by
      intro s' ks0 hk hl0 hs
      obtain ⟨l', ks, hk, hl1, hr⟩ := lendG_sound hk
      refine ⟨_, _, hk, fun k hk => ?_, fun cx w vals hp' kk h1 h2 hm hv => ?_⟩
      · rw [app_eq] at hk
        exact (List.mem_append.1 hk).elim (hl0 k) (hl1 k)
      rw [app_eq] at h1 h2
      cases hv with
      | cons hv1 hv2 =>
        exact .cons (hs cx w _ hp' kk (fun k hk => h1 k (List.mem_append_left _ hk)) (fun k hk => h2 k (List.mem_append_left _ hk)) hm hv1)
          (hr cx w _ hp' kk (fun k hk => h1 k (List.mem_append_right _ hk)) (fun k hk => h2 k (List.mem_append_right _ hk)) hm hv2)
    simp only [lendG] at hk
    split at hk
    · split at hk
      · exact rest (ks0 := []) hk (fun _ h => by cases h) fun cx w v hp' kk _ _ _ hv => hv.mono (ext_minus cx w kk)
      · obtain ⟨E, xs, ks0, hk, hl, hs⟩ := lend_one (.inl ⟨_, _, _, _, rfl⟩) hk
        exact rest hk hl hs
    · obtain ⟨E, xs, ks0, hk, hl, hs⟩ := lend_one (.inr ⟨_, _, _, _, rfl⟩) hk
      exact rest hk hl hs
    · split at hk
      · obtain ⟨cs', ks0, hk, hl, hs⟩ := lend_agg hk
        exact rest hk hl hs
      · exact rest (ks0 := []) hk (fun _ h => by cases h) fun cx w v hp' kk _ _ _ hv => hv.mono (ext_minus cx w kk)
    · exact rest (s' := s) (ks0 := []) hk (fun _ h => by cases h) fun cx w v hp' kk _ _ _ hv => hv.mono (ext_minus cx w kk)

section
variable {P : Program} {TT : Nat → TI} {n : Sz} {e : List (Nat × SV)} {h : List OB} {K : Rec → Prop}
variable {dst : Option Nat} {ty : TypeId} {pos : String} {after : Array Edge} {guard : Option (Nat × Bool)}

theorem run_callFunc {f : FuncId} {args : Array Value} {w : World} (hE : Enters P f) : (callFunc f args).run P w = .ok (.enter f args) w := by
  obtain ⟨fn, h1, h2, h3⟩ := hE
  have h2' : ¬ fn.name = "runtime.NumGoroutine" := by simpa using h2
  have h3' : ¬ fn.body = none := by cases hb : fn.body <;> simp_all
  simp [callFunc, h1, h2', h3']

theorem inHpK_sound {h : List OB} {all : List Nat} : ∀ {ks : List Nat} {K : List OB → Prop}, inHpK h all ks K → ∃ hpi, K hpi ∧ hpi.length = ks.length ∧
    ∀ (j k : Nat), ks[j]? = some k → ∃ ob, nthB h k = some ob ∧ ob ≠ .gone ∧ hpi[j]? = some ob ∧ ((∃ s, ob = .cells s ∧ subN (refs s []) all = true) ∨ ∃ x E rows, ob = .arr x E rows)
  | [], K, hk => ⟨[], hk, rfl, fun j k h => by simp at h⟩
  | k0 :: r, K, hk => by
    simp only [inHpK] at hk
    split at hk
    · rename_i s hs
      split at hk
      · rename_i hn
        obtain ⟨hpi, h1, h2, h3⟩ := inHpK_sound hk
        refine ⟨_, h1, by simp [h2], fun j k hj => ?_⟩
        cases j with
        | zero => simp at hj; subst hj; exact ⟨_, hs, by simp, rfl, .inl ⟨s, rfl, hn⟩⟩
        | succ j => obtain ⟨ob, g1, g2, g3, g4⟩ := h3 j k (by simpa using hj); exact ⟨ob, g1, g2, by simpa using g3, g4⟩
      · exact hk.elim
    · rename_i x E rows hs
      obtain ⟨hpi, h1, h2, h3⟩ := inHpK_sound hk
      refine ⟨_, h1, by simp [h2], fun j k hj => ?_⟩
      cases j with
      | zero => simp at hj; subst hj; exact ⟨_, hs, by simp, rfl, .inr ⟨x, E, rows, rfl⟩⟩
      | succ j => obtain ⟨ob, g1, g2, g3, g4⟩ := h3 j k (by simpa using hj); exact ⟨ob, g1, g2, by simpa using g3, g4⟩
    · exact hk.elim
theorem upon_does {o : Oper} {f : FuncId} {args : Array Value} {w : World} {a : Act} {next : Act → World → Prop} {Q : Exit → Act → World → Prop}
    (h : Does P f args w fun e w' => ∃ v, e = .returned v ∧ next (a.put o.dst v) w') : o.upon P a next Q ((callFunc f args).run P w) := by
  rcases h with ⟨hE, h⟩ | ⟨v, w', h1, v', h2, h3⟩
  · rw [run_callFunc hE, Oper.upon_enter]
    refine h.mono ?_
    rintro e w' ⟨v, rfl, h⟩
    exact h
  · rw [h1, Oper.upon_value]
    cases h2
    exact h3
theorem updHp_same : ∀ {l : List (Nat × OB)} {f : Nat → Option OB}, (∀ p ∈ l, f p.1 = some p.2) → updHp f l = f
  | [], _, _ => rfl
  | (k, ob) :: r, f, h => by
    have e : (fun i => if i = k then some ob else f i) = f := by
      funext i
      by_cases hi : i = k
      · subst hi; rw [if_pos rfl]; exact (h (i, ob) List.mem_cons_self).symm
      · rw [if_neg hi]
    rw [updHp, e]
    exact updHp_same fun p hp => h p (List.mem_cons_of_mem _ hp)
theorem s_callf {o : Oper} {c : Call} {x : Operand} {f : FuncId} {caps args : List SV} (hn : inFrame n o.dst = true) (ho : o.op = .call c) (hc : c.callee = .value x) (hx : OpdR (lk e) x (.clo f caps))
    (hsc : caps.all scal = true) (hl : args.length = c.args.toList.length) (hargs : ∀ (i : Nat) x s, c.args.toList[i]? = some x → args[i]? = some s → OpdR (lk e) x s)
    (hk : execCall P n o h f (app args caps) K) : Goal P o n e h K := by
  unfold execCall okT at hk
  split at hk
  case h_2 => exact hk.elim
  rename_i hall
  -- what the call is
  have run : ∀ (cx : Cx) (w : World) (a : Act), Reads (lk e) (slotsOf o.op.operands.toList) cx w a → ∃ vals : List Value, RelVL cx w (app args caps) vals ∧ (execOp a.eval o).run P w = (callFunc f vals.toArray).run P w := by
    intro cx w a hr
    have hx0 : RelC cx w (.clo f caps) [a.eval x] := hx.rel hr fun t ht => mem_slotsOf (by simp [ho, Op.operands, Call.operands, hc, ht])
    generalize hv : a.eval x = v at hx0
    cases hx0 with
    | clo vs hlen hcl =>
      refine ⟨(c.args.toList.map a.eval) ++ vs, .app (relVL_of (by simp [hl]) fun i s v h1 h2 => ?_) (relVL_of hlen fun i s v h1 h2 => ?_), ?_⟩
      · rw [List.getElem?_map] at h2
        cases hci : c.args.toList[i]? with
        | none => simp [hci] at h2
        | some y =>
          simp [hci] at h2
          subst h2
          have hr2 := (hargs i y s hci h1).rel hr fun t ht => mem_slotsOf (by
            have : y ∈ c.args := by rw [← Array.mem_toList_iff]; exact List.mem_of_getElem? hci
            simp [ho, Op.operands, Call.operands, hc, ← ht, this])
          have hok : argOK s = true := by
            have h3 : s ∈ app args caps := by rw [app_eq]; exact List.mem_append_left _ (List.mem_of_getElem? h1)
            exact List.all_eq_true.1 hall s h3
          cases s <;> first | exact hr2 | (simp [argOK] at hok)
      · have := hcl i s v h1 h2
        have hok : scal s = true := List.all_eq_true.1 hsc s (List.mem_of_getElem? h1)
        cases s <;> first | exact this | (simp [scal] at hok)
      · have e2 : c.args.map a.eval ++ vs.toArray = ((c.args.toList.map a.eval) ++ vs).toArray := by
          apply Array.ext'
          simp
        simp only [execOp, ho, resolve, hc, hv, Deferred.ofValue]
        rw [← e2]
        simp [invoke]
  have give : ∀ {g : List Nat}, execCallG P n o h f (app args caps) g K → Goal P o n e h K := by
    intro g hk
    simp only [execCallG, fNs_eq, renOBsK_eq, renKs_eq] at hk
    obtain ⟨l', lent, hk, hlive, hlend⟩ := lendG_sound hk
    obtain ⟨hmeet, hk⟩ := okT_iff.1 hk
    obtain ⟨ks, gs, hc, ha, hk, hperm, hnd, hl1, hl2, hkc, hgc, hg0⟩ := inHpG_sound hk (refsC_nodup h l')
    rw [app_eq, app_eq] at hk
    obtain ⟨r, hp', hsp, hcK⟩ := hk.inv
    have hcK := hcK.resolve_right fun h => h.2
    simp only [callG, callRecGK_eq] at hcK
    split at hcK
    · exact hcK.elim
    rename_i hble
    have hle : ks.length ≤ hp'.length := by rw [← len_eq ks, ← len_eq hp']; exact Nat.le_of_ble_eq_true hble
    obtain ⟨hclean, hcK⟩ : (lent = [] ∨ CleanP r hp') ∧ K (callRecG o (len h) ks gs lent r hp') := by
      split at hcK
      · exact ⟨.inl rfl, hcK⟩
      · obtain ⟨h1, h2⟩ := need_iff.1 hcK
        exact ⟨.inr h1, h2⟩
    refine ⟨_, fun sl' hp2 ha2' B cx a w Q K' hB hs hK => ?_, hcK⟩
    simp only [Agree, callRecG, Bool.false_eq_true, if_false] at ha2'
    obtain ⟨ha1, ha2⟩ := ha2'
    simp only [app_eq, List.mem_append] at ha2
    obtain ⟨vals, hv, hrun⟩ := run cx w a (.of_sat hs ha1)
    unfold Oper.wp
    rw [hrun]
    refine upon_does ?_
    have hv2 := hlend cx w vals hp2 lent (fun k hk => ha2 k (.inr (.inr (.inl hk)))) (fun k hk => hk) hs.mem hv
    have hin : ∀ k, ments k l' = true → k ∈ ks ++ gs := fun k hk => (hperm k).1 (refsC_mem hk)
    have hv3 : RelVL ⟨fun j => ((ks ++ gs)[j]?).bind cx.bl, (cx.minus lent).O⟩ w (rens (idx (ks ++ gs)) l') vals := hv2.ren ⟨fun k x hm hx => by
      simp only [idx_get (ks ++ gs) k (hin k hm), Option.bind_some]; exact hx, fun _ _ h => h⟩
    have hdisj : ∀ k ∈ ks ++ gs, k ∉ lent := fun k h3 h4 => by
      simp only [meets, Bool.not_eq_true', List.any_eq_false] at hmeet
      have := hmeet k ((hperm k).2 h3)
      simp only [Bool.not_eq_true, List.any_eq_false] at this
      have h5 := this k h4
      simp at h5
    refine (call_give hsp hs.glob hs.mem hnd (by rw [List.length_append, List.length_map, hl1, hl2]) (fun j k hj => ?_) (fun j k hj => ?_) hv3 hdisj (fun k hk => ?_) (base := len h) (fun i hi => ?_) hle hclean B.keep (fun k hk => by rw [hs.fr.keep k hk]; exact B.kp k hk) (fun k hk hkk => ?_)).mono ?_
    · obtain ⟨x, E, rows, h1, h2⟩ := hgc j k hj
      exact ⟨x, E, rows, by rw [ha2 k (.inr (.inl (List.mem_of_getElem? hj))), h1], by rw [List.getElem?_append_right (by rw [List.length_map]; omega), List.length_map, hl1, Nat.add_sub_cancel_left]; exact h2⟩
    · obtain ⟨s, h1, h2, h3⟩ := hkc j k hj
      exact ⟨s, by rw [ha2 k (.inl (List.mem_of_getElem? hj)), h1], by rw [List.getElem?_append_left (by rw [List.length_map, hl1]; exact (List.getElem?_eq_some_iff.1 hj).1), List.getElem?_map, h2]; rfl, fun k hk => (hperm k).1 (all_mem h3 k hk)⟩
    · obtain ⟨ob, h1, h2⟩ := hlive k hk
      exact ⟨ob, by rw [ha2 k (.inr (.inr (.inl hk))), h1], h2⟩
    · have h1 := outHp_mem (backN ks (len ks) (len h)) hp' 0 (ks.length + i) _ (List.getElem?_eq_getElem (by omega))
      have h2 : backN ks (len ks) (len h) (0 + (ks.length + i)) = len h + i := by
        have : Nat.blt (ks.length + i) ks.length = false := by
          cases hb : Nat.blt (ks.length + i) ks.length with
          | false => rfl
          | true => exact absurd (show ks.length + i < ks.length by simpa using hb) (by omega)
        simp only [backN, len_eq, Nat.zero_add, this, Nat.add_sub_cancel_left]
      rw [h2] at h1
      rw [ha2 (len h + i) (.inr (.inr (.inr (List.mem_map.2 ⟨_, h1, rfl⟩)))), nthB_eq, len_eq]
      exact List.getElem?_eq_none (by omega)
    · have h1 := B.kn k hkk
      have h4 := B.kf k hkk
      have h2 := hg0 k hk
      rw [hB] at h1 h4
      simp only [freeB] at h2
      split at h2
      · rename_i h3
        have := Nat.le_of_ble_eq_true h3
        omega
      · rw [h2] at h4; cases h4
    · rintro e2 w' ⟨v, cx2, rfl, h1, h2, h3, h4⟩
      refine ⟨_, rfl, hK cx2 _ _ ?_⟩
      subst hB
      have h3' : Mem cx2 w' (updHp hp2 (callRecG o (len h) ks gs lent r hp').wh) := by
        simp only [callRecG, app_eq]
        rw [updHp_append]; exact h3
      exact (hs.later h1 h3' h2).put h4 hn
  have keepc : ∀ {g : List Nat}, execCallK P o h f (app args caps) g K → Goal P o n e h K := by
    intro g hk
    simp only [execCallK, fNs_eq, renOBsK_eq, renKs_eq] at hk
    obtain ⟨l', lent, hk, hlive, hlend⟩ := lendG_sound hk
    obtain ⟨hmeet, hk⟩ := okT_iff.1 hk
    obtain ⟨hpi, hk, hlen, hkc⟩ := inHpK_sound hk
    have hnd := refsC_nodup h l'
    have hdisj : ∀ k ∈ refsC h l', k ∉ lent := fun k h3 h4 => by
      simp only [meets, Bool.not_eq_true', List.any_eq_false] at hmeet
      have := hmeet k h3
      simp only [Bool.not_eq_true, List.any_eq_false] at this
      have h5 := this k h4
      simp at h5
    have hment : ∀ k, ments k l' = true → k ∈ refsC h l' := fun k hk => refsC_mem hk
    generalize refsC h l' = ks at *
    obtain ⟨r, hp', hsp, hcK⟩ := hk.inv
    simp only [callK, callRecK_eq] at hcK
    split at hcK
    · exact hcK.elim
    rename_i hble
    have hle : ks.length ≤ hp'.length := by rw [← len_eq ks, ← len_eq hp']; exact Nat.le_of_ble_eq_true hble
    obtain ⟨hclean, hcK⟩ : (lent = [] ∨ CleanP r hp') ∧ K (callRec o (len h) ks lent r hp') := by
      split at hcK
      · exact ⟨.inl rfl, hcK⟩
      · obtain ⟨h1, h2⟩ := need_iff.1 hcK
        exact ⟨.inr h1, h2⟩
    refine ⟨_, fun sl' hp2 ha B cx a w Q K' hB hs hK => ?_, hcK⟩
    simp only [Agree, callRec, Bool.false_eq_true, if_false] at ha
    obtain ⟨ha1, ha2⟩ := ha
    simp only [app_eq, List.mem_append] at ha2
    obtain ⟨vals, hv, hrun⟩ := run cx w a (.of_sat hs ha1)
    unfold Oper.wp
    rw [hrun]
    refine upon_does ?_
    have hv2 := hlend cx w vals hp2 lent (fun k hk => ha2 k (.inr (.inl hk))) (fun k hk => hk) hs.mem hv
    have hv3 : RelVL ⟨fun j => (ks[j]?).bind cx.bl, (cx.minus lent).O⟩ w (rens (idx ks) l') vals := hv2.ren ⟨fun k x hm hx => by
      simp only [idx_get ks k (hment k hm), Option.bind_some]; exact hx, fun _ _ h => h⟩
    refine (call_core hsp hs.glob hs.mem hnd (by rw [List.length_map]; exact hlen) (fun j hj => by
      obtain ⟨ob, _, h2, h3, _⟩ := hkc j _ (List.getElem?_eq_getElem hj)
      exact ⟨renOB (idx ks) ob, by rw [nthB_eq, List.getElem?_map, h3]; rfl, fun e => h2 (by cases ob <;> simp [renOB] at e ⊢)⟩) (fun j k hj => ?_) hv3 hdisj (fun k hk => ?_) (base := len h) (fun i hi => ?_) hle hclean B.keep (fun k hk => by rw [hs.fr.keep k hk]; exact B.kp k hk)).mono ?_
    · obtain ⟨ob, h1, h2, h3, h4⟩ := hkc j k hj
      exact ⟨ob, by rw [ha2 k (.inl (List.mem_of_getElem? hj)), h1], h2, by rw [List.getElem?_map, h3]; rfl, h4.imp (fun ⟨s, e, h⟩ => ⟨s, e, all_mem h⟩) id⟩
    · obtain ⟨ob, h1, h2⟩ := hlive k hk
      exact ⟨ob, by rw [ha2 k (.inr (.inl hk)), h1], h2⟩
    · have h1 := outHp_mem (backN ks (len ks) (len h)) hp' 0 (ks.length + i) _ (List.getElem?_eq_getElem (by omega))
      have h2 : backN ks (len ks) (len h) (0 + (ks.length + i)) = len h + i := by
        have : Nat.blt (ks.length + i) ks.length = false := by
          cases hb : Nat.blt (ks.length + i) ks.length with
          | false => rfl
          | true => exact absurd (show ks.length + i < ks.length by simpa using hb) (by omega)
        simp only [backN, len_eq, Nat.zero_add, this, Nat.add_sub_cancel_left]
      rw [h2] at h1
      rw [ha2 (len h + i) (.inr (.inr (List.mem_map.2 ⟨_, h1, rfl⟩))), nthB_eq, len_eq]
      exact List.getElem?_eq_none (by omega)
    · rintro e2 w' ⟨v, cx2, rfl, h1, h2, h3, h4⟩
      refine ⟨_, rfl, hK cx2 _ _ ?_⟩
      subst hB
      exact (hs.later h1 h3 h2).put h4 hn
  have main : execCall0 P o h f (app args caps) K → Goal P o n e h K := by
    intro hk
    simp only [execCall0, fNs_eq, renKs_eq] at hk
    obtain ⟨l', lent, hk, hlive, hlend⟩ := lendK_sound hk
    have core : ∀ (ks : List Nat) (hpi : List OB), ks.Nodup → hpi.length = ks.length → (∀ (j k : Nat), ks[j]? = some k → ∃ s, nthB h k = some (OB.cells s) ∧ hpi[j]? = some (OB.cells s) ∧ noRef s = true) → (∀ k ∈ ks, k ∉ lent) → (∀ k, ments k l' = true → k ∈ ks) →
        ∀ {KR : SV → Prop}, (∀ r, KR r → callR o (len h) ks lent K r) → CallN P f (rens (idx ks) l') hpi (callK o (len h) ks lent K) KR → Goal P o n e h K := by
      intro ks hpi hnd hlen hkc hdisj hment KR hKR hcall
      obtain ⟨r, hp', hsp, hcK⟩ := hcall.inv
      rcases hcK with hcK | ⟨rfl, hcR⟩
      case inr =>
        have hcR := hKR r hcR
        unfold callR at hcR
        split at hcR
        case h_2 => exact hcR.elim
        rw [renV_eq] at hcR
        refine ⟨_, fun sl' hp2 ha B cx a w Q K' hB hs hK => ?_, hcR⟩
        simp only [Agree, Bool.false_eq_true, if_false] at ha
        obtain ⟨ha1, ha2⟩ := ha
        obtain ⟨vals, hv, hrun⟩ := run cx w a (.of_sat hs ha1)
        unfold Oper.wp
        rw [hrun]
        refine upon_does ?_
        have hv2 := hlend cx w vals hp2 [] (fun k hk => by cases hk) (fun k hk => hk) hs.mem hv
        have hv3 : RelVL ⟨fun j => (ks[j]?).bind cx.bl, (cx.minus []).O⟩ w (rens (idx ks) l') vals := hv2.ren ⟨fun k x hm hx => by
          simp only [idx_get ks k (hment k hm), Option.bind_some]; exact hx, fun _ _ h => h⟩
        refine (call_core hsp hs.glob hs.mem hnd hlen (fun j hj => by
          obtain ⟨s, _, h2, _⟩ := hkc j _ (List.getElem?_eq_getElem hj)
          exact isCells_kind ⟨s, h2⟩) (fun j k hj => ?_) hv3 hdisj (fun k hk => ?_) (base := len h) (fun i hi => ?_) (by rw [hlen]; exact Nat.le_refl _) (.inl rfl) B.keep (fun k hk => by rw [hs.fr.keep k hk]; exact B.kp k hk)).mono ?_
        · obtain ⟨s, h1, h2, h3⟩ := hkc j k hj
          exact ⟨_, by rw [ha2 k (List.mem_of_getElem? hj), h1], by simp, by rw [h2]; simp only [renOB, ren_noRef _ s h3], .inl ⟨s, rfl, fun k hk => by rw [noRef_ment k s h3] at hk; cases hk⟩⟩
        · cases hk
        · omega
        · rintro e2 w' ⟨v, cx2, rfl, h1, h2, h3, h4⟩
          refine ⟨_, rfl, hK cx2 _ _ ?_⟩
          subst hB
          have e3 : updHp hp2 (outHp (backN ks (len ks) (len h)) 0 hp') = hp2 := by
            refine updHp_same fun p hp => ?_
            obtain ⟨pk, po⟩ := p
            obtain ⟨i, ob, q1, q7, q8⟩ := outHp_inv _ _ _ _ _ hp
            have hi : i < ks.length := by rw [← hlen]; exact (List.getElem?_eq_some_iff.1 q1).1
            obtain ⟨s, q3, q4, q5⟩ := hkc i _ (List.getElem?_eq_getElem hi)
            rw [q1] at q4; cases q4
            subst q7 q8
            have q6 : backN ks (len ks) (len h) (0 + i) = ks[i] := by
              have : Nat.blt i ks.length = true := by simpa using hi
              simp only [backN, len_eq, Nat.zero_add, this]
              rw [nthN_eq, List.getD_eq_getElem?_getD, List.getElem?_eq_getElem hi]; rfl
            dsimp only
            rw [q6, ha2 _ (List.getElem_mem hi), q3]
            simp only [renOB, ren_noRef _ s q5]
          rw [e3] at h3
          exact (hs.later h1 h3 h2).put h4 hn
      simp only [callK, callRecK_eq] at hcK
      split at hcK
      · exact hcK.elim
      rename_i hble
      have hle : ks.length ≤ hp'.length := by rw [← len_eq ks, ← len_eq hp']; exact Nat.le_of_ble_eq_true hble
      obtain ⟨hclean, hcK⟩ : (lent = [] ∨ CleanP r hp') ∧ K (callRec o (len h) ks lent r hp') := by
        split at hcK
        · exact ⟨.inl rfl, hcK⟩
        · obtain ⟨h1, h2⟩ := need_iff.1 hcK
          exact ⟨.inr h1, h2⟩
      refine ⟨_, fun sl' hp2 ha B cx a w Q K' hB hs hK => ?_, hcK⟩
      simp only [Agree, callRec, Bool.false_eq_true, if_false] at ha
      obtain ⟨ha1, ha2⟩ := ha
      simp only [app_eq, List.mem_append] at ha2
      obtain ⟨vals, hv, hrun⟩ := run cx w a (.of_sat hs ha1)
      unfold Oper.wp
      rw [hrun]
      refine upon_does ?_
      have hv2 := hlend cx w vals hp2 lent (fun k hk => ha2 k (.inr (.inl hk))) (fun k hk => hk) hs.mem hv
      have hv3 : RelVL ⟨fun j => (ks[j]?).bind cx.bl, (cx.minus lent).O⟩ w (rens (idx ks) l') vals := hv2.ren ⟨fun k x hm hx => by
        simp only [idx_get ks k (hment k hm), Option.bind_some]; exact hx, fun _ _ h => h⟩
      refine (call_core hsp hs.glob hs.mem hnd hlen (fun j hj => by
        obtain ⟨s, _, h2, _⟩ := hkc j _ (List.getElem?_eq_getElem hj)
        exact isCells_kind ⟨s, h2⟩) (fun j k hj => ?_) hv3 hdisj (fun k hk => ?_) (base := len h) (fun i hi => ?_) hle hclean B.keep (fun k hk => by rw [hs.fr.keep k hk]; exact B.kp k hk)).mono ?_
      · obtain ⟨s, h1, h2, h3⟩ := hkc j k hj
        exact ⟨_, by rw [ha2 k (.inl (List.mem_of_getElem? hj)), h1], by simp, by rw [h2]; simp only [renOB, ren_noRef _ s h3], .inl ⟨s, rfl, fun k hk => by rw [noRef_ment k s h3] at hk; cases hk⟩⟩
      · obtain ⟨ob, h1, h2⟩ := hlive k hk
        exact ⟨ob, by rw [ha2 k (.inr (.inl hk)), h1], h2⟩
      · have h1 := outHp_mem (backN ks (len ks) (len h)) hp' 0 (ks.length + i) _ (List.getElem?_eq_getElem (by omega))
        have h2 : backN ks (len ks) (len h) (0 + (ks.length + i)) = len h + i := by
          have : Nat.blt (ks.length + i) ks.length = false := by
            cases hb : Nat.blt (ks.length + i) ks.length with
            | false => rfl
            | true => exact absurd (show ks.length + i < ks.length by simpa using hb) (by omega)
          simp only [backN, len_eq, Nat.zero_add, this, Nat.add_sub_cancel_left]
        rw [h2] at h1
        rw [ha2 (len h + i) (.inr (.inr (List.mem_map.2 ⟨_, h1, rfl⟩))), nthB_eq, len_eq]
        exact List.getElem?_eq_none (by omega)
      · rintro e2 w' ⟨v, cx2, rfl, h1, h2, h3, h4⟩
        refine ⟨_, rfl, hK cx2 _ _ ?_⟩
        subst hB
        exact (hs.later h1 h3 h2).put h4 hn
    split at hk
    · rename_i hnr
      refine core [] [] List.nodup_nil rfl (fun j k h => by simp at h) (fun k h => by cases h) (fun k hk => by rw [noRefs_ments k l' hnr] at hk; cases hk) (KR := fun _ => botN) (fun _ h => h.elim) ?_
      rw [rens_noRef _ _ hnr]
      exact hk
    · obtain ⟨hmeet, hk⟩ := okT_iff.1 hk
      obtain ⟨hpi, hk, h1, h2⟩ := inHp_sound hk
      refine core _ hpi (refss_nodup l' [] List.nodup_nil) h1 h2 (fun k h3 h4 => ?_) (fun k hk => refss_mem l' [] (.inl hk)) (fun _ h => h) hk
      simp only [meets, Bool.not_eq_true', List.any_eq_false] at hmeet
      have := hmeet k h3
      simp only [Bool.not_eq_true, List.any_eq_false] at this
      have h5 := this k h4
      simp at h5
  split at hk
  · exact main hk
  · obtain ⟨g, hk⟩ := give_iff.1 hk
    split at hk
    · dsimp only at hk
      obtain ⟨r, hi, hk⟩ := hk.inv
      refine ⟨_, opD_mem (s := r) hn rfl rfl rfl fun hp' hh cx w a keep hr hm hkeep => ?_, hk⟩
      obtain ⟨vals, hv, hrun⟩ := run cx w a hr
      obtain ⟨v, h1, h2⟩ := hi cx w vals hp' hh hm hv
      exact ⟨v, cx, w, by rw [hrun, h1], Ext.refl _ _, Fr.refl _ _ _, hm, h2⟩
    · exact main hk
    · exact give hk
    · exact keepc hk
end
end Go.Fw

/- The executor is sound: every operation. -/
namespace Go.Fw
theorem okT_of {b : Bool} {K : Prop} (h : okT b K) : b = true ∧ K := by
  cases b
  · exact h.elim
  · exact ⟨rfl, h⟩
theorem list_one {α : Type} {l : List α} (h : 1 = l.length) : ∃ x, l = [x] := by
  rcases l with _ | ⟨x, _ | ⟨y, r⟩⟩
  · simp at h
  · exact ⟨x, rfl⟩
  · simp at h
theorem list_two {α : Type} {l : List α} (h : 2 = l.length) : ∃ x y, l = [x, y] := by
  rcases l with _ | ⟨x, _ | ⟨y, _ | ⟨z, r⟩⟩⟩
  · simp at h
  · simp at h
  · exact ⟨x, y, rfl⟩
  · simp at h
theorem lenOf_sound {s : SV} {K : Nat → Prop} (h : lenOf s K) : ∃ m, K m ∧ ∀ cx w v, RelV cx w s v → ∃ a0 cap, v = .slice a0 m cap := by
  unfold lenOf at h
  simp only [nm_eq] at h
  split at h
  · refine ⟨_, h, fun cx w v hr => ?_⟩
    have hr : RelC cx w _ [v] := hr
    cases hr <;> exact ⟨_, _, rfl⟩
  · refine ⟨_, h, fun cx w v hr => ?_⟩
    have hr : RelC cx w _ [v] := hr
    cases hr <;> exact ⟨_, _, rfl⟩
  · refine ⟨_, h, fun cx w v hr => ?_⟩
    have hr : RelC cx w _ [v] := hr
    cases hr <;> exact ⟨_, _, rfl⟩
  · refine ⟨_, h, fun cx w v hr => ?_⟩
    rw [relV_v hr]
    exact ⟨_, _, rfl⟩
  · exact h.elim

section
variable {P : Program} {TT : Nat → TI} {n : Sz} {e : List (Nat × SV)} {h : List OB} {K : Rec → Prop}
variable {dst : Option Nat} {ty : TypeId} {pos : String} {after : Array Edge} {guard : Option (Nat × Bool)}

theorem s_call {c : Call} (hT : TTok P TT) (hn : inFrame n dst = true) (hx : xOp P TT n ⟨dst, .call c, ty, pos, after, guard⟩ e h K) : Goal P ⟨dst, .call c, ty, pos, after, guard⟩ n e h K := by
  simp only [xOp] at hx
  obtain ⟨args, hl, hargs, hk⟩ := opds_sound hx
  split at hk
  · rename_i b hc
    unfold execBuiltin at hk
    split at hk
    · rename_i s
      obtain ⟨x, hx⟩ := list_one hl
      split at hk
      · rename_i t ats hat
        obtain ⟨hs, hk⟩ := okT_of hk
        obtain ⟨m, hk, hm⟩ := lenOf_sound hk
        exact ⟨_, s_len hT hn hc hx hat hs (hargs 0 x s (by rw [hx]; rfl) rfl) hm, hk⟩
      · exact hk.elim
    · rename_i s x
      obtain ⟨x1, x2, hx⟩ := list_two hl
      split at hk
      · rename_i t t' hat
        split at hk
        · rename_i E bytes z ht hti
          have ht := Nat.eq_of_beq_eq_true ht
          subst ht
          obtain ⟨_, hk⟩ := okT_of hk
          exact s_append (sx1 := s) (z := z) hT hn hc hx hat hti (hargs 0 x1 s (by rw [hx]; rfl) rfl) (hargs 1 x2 x (by rw [hx]; rfl) rfl) hk
        · rename_i E bytes z ht hti
          obtain ⟨hb, hk⟩ := okT_of hk
          rw [Bool.and_eq_true] at hb
          obtain ⟨kq, q, hq, hk⟩ := intOf_sound hk
          subst hq
          exact s_appmake (s := s) (z := z) hT hn hc hx hat hti (by simpa using hb.1) hb.2 (hargs 0 x1 s (by rw [hx]; rfl) rfl) (hargs 1 x2 _ (by rw [hx]; rfl) rfl) hk
        · exact hk.elim
      · exact hk.elim
    · rename_i sd sx
      obtain ⟨x1, x2, hx⟩ := list_two hl
      split at hk
      · rename_i t ats hat
        split at hk
        · rename_i E bytes z hti
          obtain ⟨_, hk⟩ := okT_of hk
          exact s_copy hT hn hc hx hat hti (hargs 0 x1 sd (by rw [hx]; rfl) rfl) (hargs 1 x2 sx (by rw [hx]; rfl) rfl) hk
        · exact hk.elim
      · exact hk.elim
    · rename_i s
      obtain ⟨x, hx⟩ := list_one hl
      split at hk
      · rename_i t ats hat
        obtain ⟨hs, hk⟩ := okT_of hk
        exact s_cap hT hn hc hx hat hs (hargs 0 x s (by rw [hx]; rfl) rfl) hk
      · exact hk.elim
    · rename_i s
      obtain ⟨x, hx⟩ := list_one hl
      split at hk
      · rename_i t ats hat
        split at hk
        · rename_i E bytes z hti
          obtain ⟨hE, hk⟩ := okT_of hk
          exact s_clear hT hn hc hx hat hti (by simpa using hE) (hargs 0 x s (by rw [hx]; rfl) rfl) hk
        · exact hk.elim
      · exact hk.elim
    · obtain ⟨x1, x2, hx⟩ := list_two hl
      exact ⟨_, s_minmax false hn hc hx (hargs 0 x1 _ (by rw [hx]; rfl) rfl) (hargs 1 x2 _ (by rw [hx]; rfl) rfl), hk⟩
    · obtain ⟨x1, x2, hx⟩ := list_two hl
      exact ⟨_, s_minmax true hn hc hx (hargs 0 x1 _ (by rw [hx]; rfl) rfl) (hargs 1 x2 _ (by rw [hx]; rfl) rfl), hk⟩
    · exact hk.elim
  · rename_i f hc
    obtain ⟨s, hs, hk⟩ := opd_sound hk
    split at hk
    · obtain ⟨h1, hk⟩ := okT_of hk
      exact s_callf hn rfl hc hs h1 hl hargs hk
    · exact hk.elim
  · exact hk.elim

theorem xOp_sound {o : Oper} (hT : TTok P TT) (hn : inFrame n o.dst = true) (hx : xOp P TT n o e h K) : Goal P o n e h K := by
  obtain ⟨dst, op, ty, pos, after, guard⟩ := o
  cases op
  case move => exact s_move hn hx
  case assign => exact s_assign hn hx
  case pick => exact s_pick hn hx
  case alloc => exact s_alloc hT hn hx
  case box => exact s_box hn hx
  case build => exact s_build hT hn hx
  case buildSlice => exact s_buildSlice hT hn hx
  case load => exact s_load hT hn hx
  case store => exact s_store hT hn hx
  case nilCheck => exact s_nilCheck hn hx
  case binOp => exact s_binOp hT hn hx
  case unOp => exact s_unOp hn hx
  case convert => exact s_convert hT hn hx
  case makeFunc => exact s_makeFunc hn hx
  case makeSlice => exact s_makeSlice hT hn hx
  case slice => exact s_slice hT hn hx
  case fieldAddr => exact s_fieldAddr hT hn hx
  case field => exact s_field hT hn hx
  case indexAddr => exact s_indexAddr hT hn hx
  case index => exact s_index hT hn hx
  case extract => exact s_extract hn hx
  case call => exact s_call hT hn hx
  all_goals exact hx.elim
end
end Go.Fw

/- Regions: what the executor's operations say, one behind the other. -/
namespace Go.Fw

section
variable {P : Program} {TT : Nat → TI} {n : Sz} {all : Array Oper}

/-- An operation of a region, wanted or passed over. -/
def StepG (P : Program) (all : Array Oper) (o : Oper) (n : Sz) (sl : Nat → Option SV) (hp : Nat → Option OB) (rc : Rec) : Prop :=
  ∀ (B : Base) (cx : Cx) (a : Act) (w : World) (Q : Exit → Act → World → Prop) (K : Act → World → Prop), B.n = n → SatF B cx sl hp a w →
    (∀ cx' a' w', SatF B cx' (updSl sl rc.wr) (updHp hp rc.wh) a' w' → K a' w') → if Region.wanted o (yielded all a.tmps) = true then o.wp P a w K Q else K (a.put o.dst undef) w
def OpG (P : Program) (all : Array Oper) (o : Oper) (n : Sz) (sl : Nat → Option SV) (hp : Nat → Option OB) (rc : Rec) : Prop :=
  ∀ sl' hp', Agree rc sl sl' hp hp' → StepG P all o n sl' hp' rc

inductive Der (P : Program) (all : Array Oper) (n : Sz) : List Oper → (Nat → Option SV) → (Nat → Option OB) → List Rec → (Nat → Option SV) → (Nat → Option OB) → Prop where
  | nil {sl hp} : Der P all n [] sl hp [] sl hp
  | cons {o r sl hp rc rcs sl' hp'} : OpG P all o n sl hp rc → Der P all n r (updSl sl rc.wr) (updHp hp rc.wh) rcs sl' hp' → Der P all n (o :: r) sl hp (rc :: rcs) sl' hp'

theorem dstOf_eq : ∀ (l : List Oper) (j t : Nat), dstOf l j = some t → (l[j]?).bind (·.dst) = some t
  | [], _, _, h => by cases h
  | o :: _, 0, _, h => h
  | _ :: r, j + 1, t, h => by simpa using dstOf_eq r j t h

theorem yielded_bool {a : Act} {j t : Nat} {b : Bool} (hd : dstOf all.toList j = some t) (hv : a.tmps[t]? = some (.bool b)) : yielded all a.tmps j = some b := by
  have := dstOf_eq _ _ _ hd
  rw [Array.getElem?_toList] at this
  simp [yielded, this, hv]
theorem yielded_none {a : Act} {j t : Nat} {vs : Array Value} (hd : dstOf all.toList j = some t) (hv : a.tmps[t]? = some (.tuple vs)) : yielded all a.tmps j = none := by
  have := dstOf_eq _ _ _ hd
  rw [Array.getElem?_toList] at this
  simp [yielded, this, hv]

theorem opG_plain {o : Oper} {sl hp rc} (hg : o.guard = none) (h : OpD P o n sl hp rc) : OpG P all o n sl hp rc := by
  intro sl' hp' ha B cx a w Q K hB hs hK
  simp only [Region.wanted, hg, if_true]
  exact h sl' hp' ha B cx a w Q K hB hs hK
theorem opG_want {o : Oper} {sl hp rc} {j t : Nat} {b : Bool} (hg : o.guard = some (j, b)) (hd : dstOf all.toList j = some t) (ht : sl t = some (.v (.bool b))) (h : OpD P o n sl hp rc) :
    OpG P all o n sl hp (rc.seen t) := by
  intro sl' hp' ha B cx a w Q K hB hs hK
  have h1 : sl' t = some (.v (.bool b)) := by
    unfold Agree at ha
    split at ha
    · rcases ha.1 t with h | h
      · rw [h, ht]
      · exact absurd List.mem_cons_self h.1
    · rw [ha.1 t (by simp [Rec.seen]), ht]
  obtain ⟨v, h2, h3⟩ := hs.sl t _ h1
  rw [relV_v h3] at h2
  simp only [Region.wanted, hg, yielded_bool hd h2, beq_self_eq_true, if_true]
  refine h sl' hp' ?_ B cx a w Q K hB hs hK
  unfold Agree at ha ⊢
  by_cases hb : rc.bar = true
  · have hb' : (rc.seen t).bar = true := hb
    rw [if_pos hb'] at ha; rw [if_pos hb]
    exact ⟨fun t => (ha.1 t).imp_right fun ⟨h1, h2⟩ => ⟨fun h => h1 (List.mem_cons_of_mem _ h), h2⟩, ha.2⟩
  · have hb' : ¬ (rc.seen t).bar = true := hb
    rw [if_neg hb'] at ha; rw [if_neg hb]; exact ⟨fun t ht => ha.1 t (List.mem_cons_of_mem _ ht), ha.2⟩
theorem satF_undef {B cx sl hp a w} (hs : SatF B cx sl hp a w) {dst : Option Nat} (hn : inFrame B.n dst = true) : SatF B cx (updSl sl (dst1 dst (.tup []))) hp (a.put dst undef) w :=
  hs.put (v := undef) (by exact ⟨[], rfl, .nil⟩) hn
theorem opG_skip {o : Oper} {sl hp} {j t : Nat} {b : Bool} (hn : inFrame n o.dst = true) (hg : o.guard = some (j, b)) (hd : dstOf all.toList j = some t) (ht : sl t = some (.v (.bool !b)) ∨ sl t = some (.tup [])) :
    OpG P all o n sl hp (Rec.skip o t) := by
  intro sl' hp' ha B cx a w Q K hB hs hK
  simp only [Agree, Rec.skip, Bool.false_eq_true, if_false] at ha
  have h1 : sl' t = sl t := ha.1 t (by simp)
  have hw : ¬ Region.wanted o (yielded all a.tmps) = true := by
    rcases ht with ht | ht
    · obtain ⟨v, h2, h3⟩ := hs.sl t _ (h1.trans ht)
      rw [relV_v h3] at h2
      simp [Region.wanted, hg, yielded_bool hd h2]
    · obtain ⟨v, h2, vs, rfl, _⟩ := hs.sl t _ (h1.trans ht)
      simp [Region.wanted, hg, yielded_none hd h2]
  rw [if_neg hw]
  subst hB
  exact hK cx _ _ (satF_undef hs hn)

theorem lk_same {e : List (Nat × SV)} {t : Nat} {s : SV} (h : lk e t = some s) : lk ((t, s) :: e) = lk e := by
  rw [lk_cons]
  funext i
  by_cases hi : i = t
  · subst hi; simp [h]
  · simp [hi]

theorem execOps_sound (hT : TTok P TT) : ∀ {l : List Oper} {e : List (Nat × SV)} {h : List OB} {rs : List Rec} {K : List (Nat × SV) → List OB → List Rec → Prop},
    execOps P TT n all.toList l e h rs K → ∃ rcs e' h', Der P all n l (lk e) (nthB h) rcs (lk e') (nthB h') ∧ K e' h' (rcs.reverse ++ rs)
  | [], e, h, rs, K, hk => ⟨[], e, h, .nil, hk⟩
  | o :: r, e, h, rs, K, hk => by
    have step : ∀ {e0 : List (Nat × SV)} {rc : Rec}, lk e0 = lk e → OpG P all o n (lk e) (nthB h) rc → (updK e0 h rc fun e h => execOps P TT n all.toList r e h (rc :: rs) K) →
        ∃ rcs e' h', Der P all n (o :: r) (lk e) (nthB h) rcs (lk e') (nthB h') ∧ K e' h' (rcs.reverse ++ rs) := by
      intro e0 rc h0 hg hk
      obtain ⟨e1, h1, g1, g2, hk⟩ := updK_sound hk
      obtain ⟨rcs, e', h', hd, hk⟩ := execOps_sound hT hk
      rw [g1, g2, h0] at hd
      exact ⟨rc :: rcs, e', h', .cons hg hd, by simpa using hk⟩
    rw [execOps_cons] at hk
    simp only [stepOp, frc_eq] at hk
    split at hk
    · exact hk.elim
    rename_i hn
    split at hk
    · rename_i hg
      obtain ⟨rc, hd, hk⟩ := xOp_sound hT hn hk
      exact step rfl (opG_plain hg hd) hk
    · rename_i j want hg
      split at hk
      · exact hk.elim
      rename_i t ht
      split at hk
      · rename_i b hb
        have hb' := lk_same hb
        cases b
        · simp only [bif_eq] at hk
          cases want
          · obtain ⟨rc, hd, hk⟩ := xOp_sound hT hn hk
            rw [hb'] at hd
            exact step hb' (opG_want hg ht hb hd) hk
          · exact step hb' (opG_skip hn hg ht (.inl hb)) hk
        · simp only [bif_eq] at hk
          cases want
          · exact step hb' (opG_skip hn hg ht (.inl hb)) hk
          · obtain ⟨rc, hd, hk⟩ := xOp_sound hT hn hk
            rw [hb'] at hd
            exact step hb' (opG_want hg ht hb hd) hk
      · rename_i hb
        exact step rfl (opG_skip hn hg ht (.inr hb)) hk
      · exact hk.elim

theorem wpOp_of {o : Oper} {i : Nat} {Q : Exit → Act → World → Prop} {K : Act → World → Prop} {a : Act} {w : World} (ho : all[i]? = some o)
    (h : if Region.wanted o (yielded all a.tmps) = true then o.wp P a w K Q else K (a.put o.dst undef) w) : wpOp P all Q i K a w := by
  unfold wpOp
  rw [ho]
  simp only
  split
  · rename_i hw; rw [if_pos hw] at h; exact .inl h
  · rename_i hw; rw [if_neg hw] at h; exact h

theorem der_seq {l : List Oper} {sl hp rcs sl' hp'} (hd : Der P all n l sl hp rcs sl' hp') : ∀ (j : Nat), (∀ (i : Nat) o, l[i]? = some o → all[j + i]? = some o) → ∀ {B : Base} {cx : Cx} {a : Act} {w : World} {Q : Exit → Act → World → Prop}, B.n = n →
    SatF B cx sl hp a w → (∀ cx' a' w', SatF B cx' sl' hp' a' w' → Q .normal a' w') → wpOps P all Q (List.range' j l.length) a w := by
  induction hd with
  | nil => intro j _ B cx a w Q _ hs hK; exact hK cx a w hs
  | @cons o r sl hp rc rcs sl' hp' hg _ ih =>
    intro j hj B cx a w Q hB hs hK
    rw [List.length_cons, List.range'_succ, wpOps_cons]
    refine wpOp_of (hj 0 o rfl) (hg _ _ ?_ B cx a w Q _ hB hs fun cx' a' w' hs' => ?_)
    · unfold Agree; split
      · exact ⟨fun _ => .inl rfl, fun _ => .inl rfl⟩
      · exact ⟨fun _ _ => rfl, fun _ _ => rfl⟩
    · exact ih (j + 1) (fun i o h => by rw [show j + 1 + i = j + (i + 1) by omega]; exact hj (i + 1) o (by simpa using h)) hB hs' hK
end
end Go.Fw

/- Regions in any order: first the order of writes. -/
namespace Go.Fw

theorem updSl_not {t : Nat} : ∀ {l : List (Nat × SV)} {f : Nat → Option SV}, t ∉ l.map Prod.fst → updSl f l t = f t
  | [], _, _ => rfl
  | (k, s) :: r, f, h => by
    simp only [List.map_cons, List.mem_cons, not_or] at h
    rw [updSl, updSl_not h.2]
    simp [h.1]
theorem updSl_cong {t : Nat} : ∀ {l : List (Nat × SV)} {f g : Nat → Option SV}, (t ∈ l.map Prod.fst ∨ f t = g t) → updSl f l t = updSl g l t
  | [], f, g, h => h.elim (fun h => by cases h) id
  | (k, s) :: r, f, g, h => by
    simp only [updSl]
    apply updSl_cong
    by_cases hk : t = k
    · exact .inr (by simp [hk])
    · rcases h with h | h
      · simp only [List.map_cons, List.mem_cons, hk, false_or] at h; exact .inl h
      · exact .inr (by simp [hk, h])
theorem updHp_not {t : Nat} : ∀ {l : List (Nat × OB)} {f : Nat → Option OB}, t ∉ l.map Prod.fst → updHp f l t = f t
  | [], _, _ => rfl
  | (k, s) :: r, f, h => by
    simp only [List.map_cons, List.mem_cons, not_or] at h
    rw [updHp, updHp_not h.2]
    simp [h.1]
theorem updHp_cong {t : Nat} : ∀ {l : List (Nat × OB)} {f g : Nat → Option OB}, (t ∈ l.map Prod.fst ∨ f t = g t) → updHp f l t = updHp g l t
  | [], f, g, h => h.elim (fun h => by cases h) id
  | (k, s) :: r, f, g, h => by
    simp only [updHp]
    apply updHp_cong
    by_cases hk : t = k
    · exact .inr (by simp [hk])
    · rcases h with h | h
      · simp only [List.map_cons, List.mem_cons, hk, false_or] at h; exact .inl h
      · exact .inr (by simp [hk, h])

section
variable {α : Type} {u : (Nat → Option α) → Rec → Nat → Option α} {ks : Rec → List Nat}
/-- The writes of those records that D names, in text order. -/
def fold (u : (Nat → Option α) → Rec → Nat → Option α) (D : Nat → Bool) : Nat → List Rec → (Nat → Option α) → Nat → Option α
  | _, [], f => f
  | j, rc :: r, f => fold u D (j + 1) r (match D j with | true => u f rc | false => f)

structure UP (u : (Nat → Option α) → Rec → Nat → Option α) (ks : Rec → List Nat) : Prop where
  no : ∀ f rc t, t ∉ ks rc → u f rc t = f t
  co : ∀ f g rc t, (t ∈ ks rc ∨ f t = g t) → u f rc t = u g rc t

theorem fold_congr (U : UP u ks) {D D' : Nat → Bool} {t : Nat} : ∀ (l : List Rec) (j : Nat) (f g : Nat → Option α), f t = g t → (∀ (i : Nat) rc, l[i]? = some rc → D (j + i) ≠ D' (j + i) → t ∉ ks rc) →
    fold u D j l f t = fold u D' j l g t
  | [], _, _, _, h, _ => h
  | rc :: r, j, f, g, h, hd => by
    simp only [fold]
    refine fold_congr U r (j + 1) _ _ ?_ (fun i rc' hi hne => hd (i + 1) rc' (by simpa using hi) (by rwa [show j + (i + 1) = j + 1 + i by omega]))
    have h0 := hd 0 rc rfl
    rw [Nat.add_zero] at h0
    cases hD : D j <;> cases hD' : D' j
    · exact h
    · simp only [U.no g rc t (h0 (by simp [hD, hD']))]; exact h
    · simp only [U.no f rc t (h0 (by simp [hD, hD']))]; exact h
    · exact U.co f g rc t (.inr h)
theorem fold_last (U : UP u ks) {D : Nat → Bool} {t : Nat} {rc0 : Rec} (ht : t ∈ ks rc0) : ∀ (l : List Rec) (j i0 : Nat) (f g : Nat → Option α), l[i0]? = some rc0 → D (j + i0) = true →
    (∀ (i : Nat) rc, l[i]? = some rc → i0 < i → D (j + i) = true → t ∉ ks rc) → fold u D j l f t = u g rc0 t
  | [], _, _, _, _, h, _, _ => by simp at h
  | rc :: r, j, 0, f, g, h, hD, hn => by
    simp only [List.getElem?_cons_zero, Option.some.injEq] at h
    subst h
    rw [Nat.add_zero] at hD
    simp only [fold, hD]
    have h1 : fold u D (j + 1) r (u f rc) t = fold u (fun _ => false) (j + 1) r (u f rc) t := fold_congr U r (j + 1) _ _ rfl (fun i rc' hi hne => by
      refine hn (i + 1) rc' (by simpa using hi) (by omega) ?_
      rw [show j + (i + 1) = j + 1 + i by omega]
      cases hb : D (j + 1 + i) with
      | true => rfl
      | false => simp [hb] at hne)
    have h2 : ∀ (l : List Rec) (j : Nat) (f : Nat → Option α), fold u (fun _ => false) j l f t = f t := by
      intro l
      induction l with
      | nil => intro _ _; rfl
      | cons _ _ ih => intro j f; exact ih (j + 1) f
    rw [h1, h2]
    exact U.co f g rc t (.inl ht)
  | rc :: r, j, i0 + 1, f, g, h, hD, hn => by
    simp only [fold]
    exact fold_last U ht r (j + 1) i0 _ g (by simpa using h) (by rwa [show j + 1 + i0 = j + (i0 + 1) by omega]) (fun i rc' hi hlt hd => hn (i + 1) rc' (by simpa using hi) (by omega) (by rwa [show j + (i + 1) = j + 1 + i by omega]))
/-- One more is done, and those behind it that are done write elsewhere. -/
theorem fold_more (U : UP u ks) {D : Nat → Bool} {l : List Rec} {i0 : Nat} {rc0 : Rec} {f : Nat → Option α} (h : l[i0]? = some rc0)
    (hn : ∀ (i : Nat) rc, l[i]? = some rc → i0 < i → D i = true → ∀ t ∈ ks rc0, t ∉ ks rc) : fold u (fun i => i == i0 || D i) 0 l f = u (fold u D 0 l f) rc0 := by
  funext t
  by_cases ht : t ∈ ks rc0
  · refine fold_last U ht l 0 i0 f _ h (by simp) (fun i rc hi hlt hd => hn i rc hi hlt ?_ t ht)
    simp only [Nat.zero_add, Bool.or_eq_true, beq_iff_eq] at hd
    exact hd.resolve_left (by omega)
  · rw [U.no _ rc0 t ht]
    refine fold_congr U l 0 f f rfl (fun i rc hi hne => ?_)
    rw [Nat.zero_add] at hne
    by_cases hi0 : i = i0
    · subst hi0; rw [h] at hi; cases hi; exact ht
    · simp [hi0] at hne
end

def uS (f : Nat → Option SV) (rc : Rec) : Nat → Option SV := updSl f rc.wr
def uH (f : Nat → Option OB) (rc : Rec) : Nat → Option OB := updHp f rc.wh
theorem upS : UP uS (fun rc => rc.wr.map Prod.fst) := ⟨fun _ _ _ h => updSl_not h, fun _ _ _ _ h => updSl_cong h⟩
theorem upH : UP uH (fun rc => rc.wh.map Prod.fst) := ⟨fun _ _ _ h => updHp_not h, fun _ _ _ _ h => updHp_cong h⟩

/-- The states of the text order. -/
theorem Der.at {P : Program} {n : Sz} {all : Array Oper} {l : List Oper} {sl hp rcs sl' hp'} (hd : Der P all n l sl hp rcs sl' hp') : ∀ (j : Nat), rcs.length = l.length ∧
    (∀ (i : Nat) o rc, l[i]? = some o → rcs[i]? = some rc → OpG P all o n (fold uS (fun x => decide (x < j + i)) j rcs sl) (fold uH (fun x => decide (x < j + i)) j rcs hp) rc) ∧
    sl' = fold uS (fun _ => true) j rcs sl ∧ hp' = fold uH (fun _ => true) j rcs hp := by
  induction hd with
  | nil => intro j; exact ⟨rfl, fun i o rc h => by simp at h, rfl, rfl⟩
  | @cons o r sl hp rc rcs sl' hp' hg _ ih =>
    intro j
    obtain ⟨h1, h2, h3, h4⟩ := ih (j + 1)
    refine ⟨by simp [h1], fun i o' rc' ho hr => ?_, by simpa [fold, uS] using h3, by simpa [fold, uH] using h4⟩
    cases i with
    | zero =>
      simp at ho hr
      subst ho hr
      have none : ∀ {α : Type} {u : (Nat → Option α) → Rec → Nat → Option α} (l : List Rec) (k : Nat) (f : Nat → Option α), j ≤ k → fold u (fun x => decide (x < j + 0)) k l f = f := by
        intro α u l
        induction l with
        | nil => intro _ _ _; rfl
        | cons x xs ihx =>
          intro k f hk
          have : decide (k < j + 0) = false := by simp; omega
          simp only [fold, this]
          exact ihx (k + 1) f (by omega)
      rw [none _ _ _ (Nat.le_refl _), none _ _ _ (Nat.le_refl _)]
      exact hg
    | succ i =>
      have := h2 i o' rc' (by simpa using ho) (by simpa using hr)
      have e1 : decide (j < j + (i + 1)) = true := by simp
      simp only [fold, e1]
      rw [show j + (i + 1) = j + 1 + i by omega]
      exact this
end Go.Fw

/- Regions in any order: what stands in order, and the result. -/
namespace Go.Fw

theorem nthN_app : ∀ (l r : List Nat) (i : Nat), i < l.length → nthN (l ++ r) i = nthN l i := by
  intro l r i h
  rw [nthN_eq, nthN_eq, List.getD, List.getD, List.getElem?_append_left h]
theorem nthN_ge (l : List Nat) (i : Nat) (h : l.length ≤ i) : nthN l i = 0 := by
  rw [nthN_eq, List.getD, List.getElem?_eq_none h]; rfl

def anc1 (acc : List Nat) (l : List Edge) (s : Nat) : Nat := l.foldl (fun s e => if Region.binds .any e then s ||| (1 <<< e.on) ||| nthN acc e.on else s) s
theorem anc1_bit (acc : List Nat) {x : Nat} : ∀ (l : List Edge) (s : Nat), (anc1 acc l s).testBit x = true → s.testBit x = true ∨ ∃ e ∈ l, Region.binds .any e = true ∧ (e.on = x ∨ (nthN acc e.on).testBit x = true)
  | [], s, h => .inl h
  | e :: r, s, h => by
    have h : (anc1 acc r (if Region.binds .any e then s ||| (1 <<< e.on) ||| nthN acc e.on else s)).testBit x = true := h
    rcases anc1_bit acc r _ h with h | ⟨e', h1, h2⟩
    · split at h
      · rename_i hb
        simp only [Nat.testBit_or, Bool.or_eq_true] at h
        rcases h with (h | h) | h
        · exact .inl h
        · refine .inr ⟨e, List.mem_cons_self, hb, .inl ?_⟩
          rw [Nat.one_shiftLeft, Nat.testBit_two_pow] at h
          simpa using h
        · exact .inr ⟨e, List.mem_cons_self, hb, .inr h⟩
      · exact .inl h
    · exact .inr ⟨e', List.mem_cons_of_mem _ h1, h2⟩

theorem ancs_pre : ∀ (r : List Oper) (acc : List Nat), ∃ t, ancs r acc = acc ++ t
  | [], acc => ⟨[], by simp [ancs]⟩
  | o :: r, acc => by
    obtain ⟨t, ht⟩ := ancs_pre r (snoc acc (anc1 acc o.after.toList 0))
    rw [snoc_eq, List.append_assoc] at ht
    exact ⟨_, by rw [ancs]; exact (snoc_eq _ _ ▸ ht)⟩
theorem ancs_bit {x : Nat} : ∀ (r : List Oper) (acc : List Nat) (i : Nat) (o : Oper), r[i]? = some o → (nthN (ancs r acc) (acc.length + i)).testBit x = true →
    ∃ e ∈ o.after, Region.binds .any e = true ∧ (e.on = x ∨ (nthN (ancs r acc) e.on).testBit x = true)
  | [], _, _, _, h, _ => by simp at h
  | o :: r, acc, 0, o', h, hb => by
    simp only [List.getElem?_cons_zero, Option.some.injEq] at h
    subst h
    have e1 : ancs (o :: r) acc = ancs r (snoc acc (anc1 acc o.after.toList 0)) := rfl
    obtain ⟨t, ht⟩ := ancs_pre r (snoc acc (anc1 acc o.after.toList 0))
    rw [e1, ht, snoc_eq] at hb ⊢
    rw [Nat.add_zero, nthN_app _ _ _ (by simp), nthN_eq, List.getD, List.getElem?_append_right (Nat.le_refl _)] at hb
    simp only [Nat.sub_self, List.getElem?_cons_zero, Option.getD_some] at hb
    rcases anc1_bit acc _ _ hb with h | ⟨e, h1, h2, h3⟩
    · simp at h
    · refine ⟨e, by simpa using h1, h2, h3.imp_right fun h => ?_⟩
      rcases Nat.lt_or_ge e.on acc.length with hl | hl
      · rw [List.append_assoc, nthN_app _ _ _ hl]; exact h
      · rw [nthN_ge _ _ hl] at h; simp at h
  | o :: r, acc, i + 1, o', h, hb => by
    have e1 : ancs (o :: r) acc = ancs r (snoc acc (anc1 acc o.after.toList 0)) := rfl
    rw [e1] at hb ⊢
    refine ancs_bit r _ i o' (by simpa using h) ?_
    rw [snoc_eq, List.length_append, List.length_singleton, show acc.length + 1 + i = acc.length + (i + 1) by omega, ← snoc_eq]
    exact hb

theorem fits_spec {m0 : Nat} {an : List Nat} : ∀ (rest ahead : List Rec) (j : Nat), fits m0 ahead rest an j = true → ahead.length = j → ∀ (a b : Nat) ra rb, a < b → j ≤ b → (ahead ++ rest)[a]? = some ra → (ahead ++ rest)[b]? = some rb →
    clash m0 ra rb = true → (nthN an b).testBit a = true
  | [], ahead, j, _, hj, a, b, ra, rb, _, hb, _, h2, _ => by
    rw [List.append_nil] at h2
    have := (List.getElem?_eq_some_iff.1 h2).1
    omega
  | rc :: r, ahead, j, h, hj, a, b, ra, rb, hab, hb, h1, h2, hc => by
    simp only [fits, Bool.and_eq_true] at h
    rcases Nat.eq_or_lt_of_le hb with rfl | hlt
    · rw [List.getElem?_append_left (by omega)] at h1
      rw [List.getElem?_append_right (by omega), hj, Nat.sub_self] at h2
      simp at h2; subst h2
      have := List.all_eq_true.1 h.1 (ra, a) (by
        rw [List.mem_zipIdx_iff_getElem?]; exact h1)
      simp only [hc, Bool.not_true, Bool.false_or] at this
      exact this
    · exact fits_spec r (snoc ahead rc) (j + 1) h.2 (by simp [snoc_eq, hj]) a b ra rb hab (by omega) (by rw [snoc_eq]; simpa using h1) (by rw [snoc_eq]; simpa using h2) hc

theorem meets_not {a b : List Nat} (h : meets a b = false) {x : Nat} (hx : x ∈ a) : x ∉ b := fun hb => by
  simp only [meets, List.any_eq_false] at h
  have := h x hx
  simp only [Bool.not_eq_true, List.any_eq_false] at this
  have := this x hb
  simp at this

theorem mskN_bit : ∀ (l : List Nat) (t : Nat), (mskN l).testBit t = true ↔ t ∈ l
  | [], t => by simp [mskN]
  | x :: r, t => by
    have h : mskN (x :: r) = (1 <<< x) ||| mskN r := rfl
    rw [h, Nat.testBit_or, Nat.one_shiftLeft, Nat.testBit_two_pow, Bool.or_eq_true, mskN_bit r t, List.mem_cons]
    simp only [decide_eq_true_eq]
    exact ⟨fun h => h.imp_left Eq.symm, fun h => h.imp_left Eq.symm⟩
theorem mskF_eq {α : Type} : ∀ (l : List (Nat × α)), mskF l = mskN (l.map Prod.fst)
  | [] => rfl
  | (t, _) :: r => by simp only [mskF, List.map_cons, mskN, mskF_eq r]
theorem nil0_meets {a b : List Nat} (h : nil0 (mskN a) (mskN b) = true) : meets a b = false := by
  have h1 : mskN a &&& mskN b = 0 := Nat.eq_of_beq_eq_true h
  simp only [meets, List.any_eq_false]
  intro x hx
  simp only [Bool.not_eq_true, List.any_eq_false]
  intro y hy
  cases hb : Nat.beq x y with
  | false => rfl
  | true =>
  have e := Nat.eq_of_beq_eq_true hb
  subst e
  have h2 : (mskN a &&& mskN b).testBit x = true := by
    rw [Nat.testBit_and, (mskN_bit a x).2 hx, (mskN_bit b x).2 hy]; rfl
  rw [h1] at h2
  simp at h2
theorem mskN_app : ∀ (a b : List Nat), Nat.lor (mskN a) (mskN b) = mskN (app a b)
  | [], b => by show 0 ||| mskN b = mskN b; simp
  | t :: r, b => by
    have h : Nat.lor (mskN r) (mskN b) = mskN (app r b) := mskN_app r b
    show ((1 <<< t) ||| mskN r) ||| mskN b = (1 <<< t) ||| mskN (app r b)
    rw [Nat.or_assoc]
    exact congrArg (fun z => (1 <<< t) ||| z) h
theorem apartM_sound {m0 : Nat} {a b : Rec} (h : apartM m0 (rmOf a) (rmOf b) = true) : clash m0 a b = false := by
  unfold apartM at h
  split at h
  · rename_i h1 h2
    split at h
    · rename_i h3
      split at h
      · rename_i h4
        split at h
        · rename_i h5
          have h7 : (b.bar && !(inert0 b a && nil0 (mskF a.wr) m0)) = false := by
            unfold barB at h2
            simp only [rmOf] at h2
            split at h2
            · split at h2
              · rename_i h8
                split at h2
                · rename_i h9
                  split at h2
                  · rename_i h10
                    have e1 : inertA b a = true := by unfold inertA; rw [h8]; exact h10
                    have e2 : inert0 b a = true := by
                      unfold inert0
                      rw [e1]
                      cases hw : a.wh with
                      | nil => rfl
                      | cons x y => rw [hw] at h9; cases h9
                    rw [e2, h2]; simp
                  · cases h2
                · cases h2
              · cases h2
            · rename_i h8; rw [h8]; rfl
          have h6 : (a.bar && !inertA a b) = false := by
            unfold barA at h1
            simp only [rmOf] at h1
            split at h1
            · split at h1
              · rename_i h8
                have e1 : inertA a b = true := by unfold inertA; rw [h8]; exact h1
                rw [e1]; simp
              · cases h1
            · rename_i hb; rw [hb]; rfl
          simp only [rmOf, mskF_eq, mskN_app] at h3 h4 h5 h
          simp only [clash, h6, h7, nil0_meets h3, nil0_meets h4, nil0_meets h5, nil0_meets h, Bool.or_false]
        · cases h
      · cases h
    · cases h
  · cases h
theorem okOne_sound {m0 an : Nat} {b : Rec} : ∀ {l : List Rec} {i : Nat}, okOne m0 an (rmOf b) i (rms l) = true → ∀ p ∈ l.zipIdx i, (!clash m0 p.1 b || an.testBit p.2) = true
  | [], _, _, p, hp => by simp at hp
  | a :: r, i, h, p, hp => by
    simp only [rms, okOne] at h
    rw [List.zipIdx_cons, List.mem_cons] at hp
    have bit : Nat.beq (Nat.land 1 (Nat.shiftRight an i)) 1 = an.testBit i := by
      have : Nat.testBit an i = (1 &&& (an >>> i) != 0) := rfl
      rw [this]
      have hle : Nat.land 1 (Nat.shiftRight an i) ≤ 1 := Nat.and_le_left
      show Nat.beq (Nat.land 1 (Nat.shiftRight an i)) 1 = (Nat.land 1 (Nat.shiftRight an i) != 0)
      generalize Nat.land 1 (Nat.shiftRight an i) = z at hle
      match z, hle with
      | 0, _ => rfl
      | 1, _ => rfl
      | z + 2, h => omega
    split at h
    · rename_i hb
      rcases hp with rfl | hp
      · rw [bit] at hb; simp [hb]
      · exact okOne_sound h p hp
    · split at h
      · rename_i ha
        rcases hp with rfl | hp
        · simp [apartM_sound ha]
        · exact okOne_sound h p hp
      · cases h
theorem rms_snoc : ∀ (l : List Rec) (b : Rec), rms (snoc l b) = snoc (rms l) (rmOf b)
  | [], _ => rfl
  | a :: r, b => by simp only [snoc, rms, rms_snoc r b]
theorem fitsM_sound {m0 : Nat} {an : List Nat} : ∀ {rest ahead : List Rec} {j : Nat}, fitsM m0 (rms ahead) (rms rest) an j = true → fits m0 ahead rest an j = true
  | [], _, _, _ => rfl
  | b :: r, ahead, j, h => by
    simp only [rms, fitsM] at h
    split at h
    · rename_i h1
      rw [← rms_snoc] at h
      simp only [fits, Bool.and_eq_true]
      exact ⟨List.all_eq_true.2 fun p hp => okOne_sound h1 p hp, fitsM_sound h⟩
    · cases h
theorem backB_sound : ∀ {l : List Oper} {i : Nat}, backB l i = true → (l.zipIdx i).all (fun (o, i) => o.after.toList.all fun e => !Region.binds .any e || Nat.blt e.on i) = true
  | [], _, _ => rfl
  | o :: r, i, h => by
    simp only [backB] at h
    split at h
    · rename_i h1
      rw [List.zipIdx_cons, List.all_cons, Bool.and_eq_true]
      refine ⟨List.all_eq_true.2 fun e he => ?_, backB_sound h⟩
      have := List.all_eq_true.1 h1 e he
      cases hb : Region.binds .any e
      · simp
      · rw [hb] at this; simp only at this; rw [this]; rfl
    · cases h
theorem drawOK_sound {m : Nat} {ops : List Oper} {recs : List Rec} (h : drawOK m ops recs = true) : (fits (twiceM recs m 0) [] recs (ancs ops []) 0 && ops.zipIdx.all fun (o, i) => o.after.toList.all fun e => !Region.binds .any e || Nat.blt e.on i) = true := by
  unfold drawOK at h
  split at h
  · rename_i h1
    rw [Bool.and_eq_true]
    exact ⟨fitsM_sound (ahead := []) h1, backB_sound h⟩
  · cases h

theorem updSl_mem {t : Nat} : ∀ {l : List (Nat × SV)} {f : Nat → Option SV}, t ∈ l.map Prod.fst → ∃ s, updSl f l t = some s
  | [], _, h => by simp at h
  | (u, s) :: r, f, h => by
    rw [updSl]
    by_cases hr : t ∈ r.map Prod.fst
    · exact updSl_mem hr
    · rw [updSl_not hr]
      simp only [List.map_cons, List.mem_cons] at h
      rcases h with h | h
      · exact ⟨s, by simp [h]⟩
      · exact absurd h hr
theorem shl_ne {j k : Nat} (h : (Nat.shiftLeft 1 j).testBit k = false) : Nat.beq j k = false := by
  have h : (1 <<< j).testBit k = false := h
  rw [Nat.one_shiftLeft, Nat.testBit_two_pow] at h
  cases hb : Nat.beq j k with
  | false => rfl
  | true => have := Nat.eq_of_beq_eq_true hb; simp [this] at h
mutual
theorem nmS_ment (k : Nat) : ∀ (s : SV), (nmS s).testBit k = false → ment k s = false
  | .v _, _ => rfl
  | .ba .., _ => rfl
  | .fs .., _ => rfl
  | .pf .., _ => rfl
  | .top, _ => rfl
  | .pb j _, h => shl_ne h
  | .pe _ j _ _, h => shl_ne h
  | .ov _ j _ _, h => shl_ne h
  | .sb j _ _ _, h => shl_ne h
  | .agg cs, h => by simp only [nmS] at h; simp only [ment, nmSs_ment k cs h]
  | .clo _ cs, h => by simp only [nmS] at h; simp only [ment, nmSs_ment k cs h]
  | .tup cs, h => by simp only [nmS] at h; simp only [ment, nmSs_ment k cs h]
theorem nmSs_ment (k : Nat) : ∀ (cs : List SV), (nmSs cs).testBit k = false → ments k cs = false
  | [], _ => rfl
  | s :: r, h => by
    have h : (nmS s ||| nmSs r).testBit k = false := h
    rw [Nat.testBit_or, Bool.or_eq_false_iff] at h
    simp only [ments, nmS_ment k s h.1, nmSs_ment k r h.2]
end
theorem nmW_ment {k : Nat} : ∀ {l : List (Nat × SV)}, (nmW l).testBit k = false → ∀ p ∈ l, ment k p.2 = false
  | [], _, _, h => by cases h
  | (t, s) :: r, h, p, hp => by
    have h : (nmS s ||| nmW r).testBit k = false := h
    rw [Nat.testBit_or, Bool.or_eq_false_iff] at h
    rcases List.mem_cons.1 hp with rfl | hp
    · exact nmS_ment k _ h.1
    · exact nmW_ment h.2 p hp
theorem nmH_ment {k : Nat} : ∀ {l : List (Nat × OB)}, (nmH l).testBit k = false → ∀ p ∈ l, ∀ s, p.2 = .cells s → ment k s = false
  | [], _, _, h => by cases h
  | (t, ob) :: r, h, p, hp => by
    have h : (nmOB ob ||| nmH r).testBit k = false := h
    rw [Nat.testBit_or, Bool.or_eq_false_iff] at h
    rcases List.mem_cons.1 hp with rfl | hp
    · intro s hs
      dsimp only at hs
      subst hs
      exact nmS_ment k _ h.1
    · exact nmH_ment h.2 p hp
/-- It names none of these blocks. -/
structure InW (W : List Nat) (b : Rec) : Prop where
  wr : ∀ p ∈ b.wr, ∀ k ∈ W, ment k p.2 = false
  wh : ∀ p ∈ b.wh, ∃ s, p.2 = .cells s ∧ ∀ k ∈ W, ment k s = false
theorem inertA_parts {a b : Rec} (h : inertA a b = true) : InW (arrW a.wh) b := by
  unfold inertA at h
  split at h
  · rename_i hs
    have h1 : mskN (arrW a.wh) &&& nmR b = 0 := Nat.eq_of_beq_eq_true h
    have hk : ∀ k ∈ arrW a.wh, (nmW b.wr).testBit k = false ∧ (nmH b.wh).testBit k = false := fun k hk => by
      have h2 : (mskN (arrW a.wh) &&& nmR b).testBit k = false := by rw [h1]; simp
      rw [Nat.testBit_and, (mskN_bit _ k).2 hk, Bool.true_and] at h2
      have h2 : (nmW b.wr ||| nmH b.wh).testBit k = false := h2
      rw [Nat.testBit_or, Bool.or_eq_false_iff] at h2
      exact h2
    refine ⟨fun p hp k hk' => nmW_ment (hk k hk').1 p hp, fun p hp => ?_⟩
    unfold shapeOK at hs
    split at hs
    · have h3 := List.all_eq_true.1 hs p hp
      cases hq : p.2 with
      | cells s => exact ⟨s, rfl, fun k hk' => nmH_ment (hk k hk').2 p hp s hq⟩
      | arr x E rows => rw [hq] at h3; cases h3
      | gone => rw [hq] at h3; cases h3
    · cases hs
  · cases h
theorem updHp_has {t : Nat} : ∀ {l : List (Nat × OB)} {f : Nat → Option OB}, t ∈ l.map Prod.fst → ∃ ob, (t, ob) ∈ l ∧ updHp f l t = some ob
  | [], _, h => by simp at h
  | (u, s) :: r, f, h => by
    rw [updHp]
    by_cases hr : t ∈ r.map Prod.fst
    · obtain ⟨ob, h1, h2⟩ := updHp_has (f := fun i => if i = u then some s else f i) hr
      exact ⟨ob, List.mem_cons_of_mem _ h1, h2⟩
    · rw [updHp_not hr]
      simp only [List.map_cons, List.mem_cons] at h
      rcases h with h | h
      · exact ⟨s, by rw [h]; exact List.mem_cons_self, by simp [h]⟩
      · exact absurd h hr
theorem inertH_at {W : List Nat} {b : Rec} (h : InW W b) {t : Nat} (ht : t ∈ b.wh.map Prod.fst) (f : Nat → Option OB) : ∃ s, uH f b t = some (.cells s) ∧ ∀ k ∈ W, ment k s = false := by
  obtain ⟨ob, h1, h2⟩ := updHp_has (f := f) ht
  obtain ⟨s, h3, h4⟩ := h.wh _ h1
  dsimp only at h3
  subst h3
  exact ⟨s, h2, h4⟩
theorem fold_inertH {W : List Nat} {D : Nat → Bool} {t m : Nat} : ∀ (l : List Rec) (j : Nat) (f : Nat → Option OB), (∀ (i : Nat) rc, l[i]? = some rc → m ≤ j + i → D (j + i) = true → t ∈ rc.wh.map Prod.fst → InW W rc) →
    (∃ (i : Nat) (rc : Rec), l[i]? = some rc ∧ m ≤ j + i ∧ D (j + i) = true ∧ t ∈ rc.wh.map Prod.fst) → ∃ s, fold uH D j l f t = some (.cells s) ∧ ∀ k ∈ W, ment k s = false
  | [], _, _, _, ⟨_, _, h, _⟩ => by simp at h
  | rc :: r, j, f, h, g => by
    simp only [fold]
    by_cases hr : ∃ (i : Nat) (rc : Rec), r[i]? = some rc ∧ m ≤ j + 1 + i ∧ D (j + 1 + i) = true ∧ t ∈ rc.wh.map Prod.fst
    · exact fold_inertH r (j + 1) _ (fun i rc' h1 h2 h3 => h (i + 1) rc' (by simpa using h1) (by omega) (by rwa [show j + (i + 1) = j + 1 + i by omega])) hr
    · obtain ⟨i, rc', h1, h2, h3, h4⟩ := g
      rcases i with _ | i
      · simp only [List.getElem?_cons_zero, Option.some.injEq] at h1
        subst h1
        rw [Nat.add_zero] at h2 h3
        rw [h3]
        obtain ⟨s, h5, h6⟩ := inertH_at (h 0 rc rfl h2 h3 h4) h4 f
        refine ⟨s, ?_, h6⟩
        rw [← h5]
        refine (fold_congr upH (D' := fun _ => false) r (j + 1) _ _ rfl fun i rc2 g1 g2 g3 => hr ⟨i, rc2, g1, by omega, by simpa using g2, g3⟩).trans ?_
        have none : ∀ (l : List Rec) (j : Nat) (f : Nat → Option OB), fold uH (fun _ => false) j l f = f := by
          intro l
          induction l with
          | nil => intro _ _; rfl
          | cons a l ih => intro j f; simp only [fold]; exact ih _ _
        rw [none]
      · exact absurd ⟨i, rc', by simpa using h1, by omega, by rwa [show j + 1 + i = j + (i + 1) by omega], h4⟩ hr
theorem inert_at {W : List Nat} {b : Rec} (h : InW W b) {t : Nat} (ht : t ∈ b.wr.map Prod.fst) (f : Nat → Option SV) : ∃ s, uS f b t = some s ∧ ∀ k ∈ W, ment k s = false := by
  obtain ⟨s, hs⟩ := updSl_mem (f := f) ht
  refine ⟨s, hs, ?_⟩
  rcases updSl_inv _ _ t s hs with ⟨s', h3, rfl⟩ | ⟨_, h4⟩
  · exact h.wr _ h3
  · obtain ⟨⟨_, s'⟩, h5, rfl⟩ := List.mem_map.1 ht
    exact absurd h5 (h4 s')
/-- The last one that writes it is inert. -/
theorem fold_inert {W : List Nat} {D : Nat → Bool} {t m : Nat} : ∀ (l : List Rec) (j : Nat) (f : Nat → Option SV), (∀ (i : Nat) rc, l[i]? = some rc → m ≤ j + i → D (j + i) = true → t ∈ rc.wr.map Prod.fst → InW W rc) →
    (∃ (i : Nat) (rc : Rec), l[i]? = some rc ∧ m ≤ j + i ∧ D (j + i) = true ∧ t ∈ rc.wr.map Prod.fst) → ∃ s, fold uS D j l f t = some s ∧ ∀ k ∈ W, ment k s = false
  | [], _, _, _, ⟨_, _, h, _⟩ => by simp at h
  | rc :: r, j, f, h, g => by
    simp only [fold]
    by_cases hr : ∃ (i : Nat) (rc : Rec), r[i]? = some rc ∧ m ≤ j + 1 + i ∧ D (j + 1 + i) = true ∧ t ∈ rc.wr.map Prod.fst
    · exact fold_inert r (j + 1) _ (fun i rc' h1 h2 h3 => h (i + 1) rc' (by simpa using h1) (by omega) (by rwa [show j + (i + 1) = j + 1 + i by omega])) hr
    · obtain ⟨i, rc', h1, h2, h3, h4⟩ := g
      rcases i with _ | i
      · simp only [List.getElem?_cons_zero, Option.some.injEq] at h1
        subst h1
        rw [Nat.add_zero] at h2 h3
        rw [h3]
        obtain ⟨s, h5, h6⟩ := inert_at (h 0 rc rfl h2 h3 h4) h4 f
        refine ⟨s, ?_, h6⟩
        rw [← h5]
        refine (fold_congr upS (D' := fun _ => false) r (j + 1) _ _ rfl fun i rc2 g1 g2 g3 => hr ⟨i, rc2, g1, by omega, by simpa using g2, g3⟩).trans ?_
        have none : ∀ (l : List Rec) (j : Nat) (f : Nat → Option SV), fold uS (fun _ => false) j l f = f := by
          intro l
          induction l with
          | nil => intro _ _; rfl
          | cons a l ih => intro j f; simp only [fold]; exact ih _ _
        rw [none]
      · exact absurd ⟨i, rc', by simpa using h1, by omega, by rwa [show j + 1 + i = j + (i + 1) by omega], h4⟩ hr

theorem twiceM_mono {t : Nat} : ∀ (l : List Rec) (seen tw : Nat), tw.testBit t = true → (twiceM l seen tw).testBit t = true
  | [], _, _, h => h
  | b :: r, seen, tw, h => twiceM_mono r _ _ (by show (tw ||| _).testBit t = true; rw [Nat.testBit_or, h]; rfl)
theorem twiceM_seen {t : Nat} : ∀ (l : List Rec) (seen tw : Nat), seen.testBit t = true → (∃ (i : Nat) (b : Rec), l[i]? = some b ∧ t ∈ b.wr.map Prod.fst) → (twiceM l seen tw).testBit t = true
  | [], _, _, _, ⟨_, _, h, _⟩ => by simp at h
  | b :: r, seen, tw, h, ⟨i, c, h1, h2⟩ => by
    rcases i with _ | i
    · simp only [List.getElem?_cons_zero, Option.some.injEq] at h1
      subst h1
      refine twiceM_mono r _ _ ?_
      show (tw ||| (seen &&& mskF b.wr)).testBit t = true
      rw [Nat.testBit_or, Nat.testBit_and, h, mskF_eq, (mskN_bit _ t).2 h2]; simp
    · exact twiceM_seen r _ _ (by show (seen ||| _).testBit t = true; rw [Nat.testBit_or, h]; rfl) ⟨i, c, by simpa using h1, h2⟩
theorem twiceM_one {t : Nat} : ∀ (l : List Rec) (seen tw : Nat), (twiceM l seen tw).testBit t = false → ∀ (i : Nat) (b : Rec), l[i]? = some b → t ∈ b.wr.map Prod.fst → seen.testBit t = false ∧ ∀ (j : Nat) (c : Rec), l[j]? = some c → t ∈ c.wr.map Prod.fst → j = i
  | [], _, _, _, i, b, h1, _ => by simp at h1
  | a :: r, seen, tw, h, i, b, h1, h2 => by
    have hs : seen.testBit t = false := by
      cases hh : seen.testBit t
      · rfl
      · rw [twiceM_seen (a :: r) seen tw hh ⟨i, b, h1, h2⟩] at h; cases h
    refine ⟨hs, fun j c g1 g2 => ?_⟩
    have no : t ∈ a.wr.map Prod.fst → ∀ (j : Nat) (c : Rec), r[j]? = some c → t ∉ c.wr.map Prod.fst := fun ha j c q1 q2 => by
      have : (twiceM r (Nat.lor seen (mskF a.wr)) (Nat.lor tw (Nat.land seen (mskF a.wr)))).testBit t = true := twiceM_seen r _ _ (by
        show (seen ||| mskF a.wr).testBit t = true
        rw [Nat.testBit_or, mskF_eq, (mskN_bit _ t).2 ha]; simp) ⟨j, c, q1, q2⟩
      have h : (twiceM r (Nat.lor seen (mskF a.wr)) (Nat.lor tw (Nat.land seen (mskF a.wr)))).testBit t = false := h
      rw [this] at h; cases h
    rcases i with _ | i <;> rcases j with _ | j
    · rfl
    · simp only [List.getElem?_cons_zero, Option.some.injEq] at h1
      subst h1
      exact absurd g2 (no h2 j c (by simpa using g1))
    · simp only [List.getElem?_cons_zero, Option.some.injEq] at g1
      subst g1
      exact absurd h2 (no g2 i b (by simpa using h1))
    · have := (twiceM_one r _ _ h i b (by simpa using h1) h2).2 j c (by simpa using g1) g2
      omega
theorem mskF_none {t : Nat} : ∀ {e : List (Nat × SV)}, (mskF e).testBit t = false → lk e t = none
  | [], _ => rfl
  | (u, s) :: r, h => by
    have h : ((1 <<< u) ||| mskF r).testBit t = false := h
    rw [Nat.testBit_or, Nat.one_shiftLeft, Nat.testBit_two_pow, Bool.or_eq_false_iff] at h
    rw [lk_cons]
    have h1 : ¬ u = t := by simpa using h.1
    simp only [if_neg (fun e => h1 (Eq.symm e))]
    exact mskF_none h.2
theorem inert0_parts {a b : Rec} (h : inert0 a b = true) : inertA a b = true ∧ b.wh = [] := by
  unfold inert0 at h
  split at h
  · rename_i h1 h2; exact ⟨h1, h2⟩
  · cases h
theorem fold_none {D : Nat → Bool} {t : Nat} : ∀ (l : List Rec) (j : Nat) (f : Nat → Option SV), (∀ (i : Nat) rc, l[i]? = some rc → D (j + i) = true → t ∉ rc.wr.map Prod.fst) → fold uS D j l f t = f t
  | [], _, _, _ => rfl
  | rc :: r, j, f, h => by
    simp only [fold]
    rw [fold_none r (j + 1) _ (fun i rc' h1 h2 => h (i + 1) rc' (by simpa using h1) (by rwa [show j + (i + 1) = j + 1 + i by omega]))]
    cases hd : D j
    · rfl
    · exact updSl_not (h 0 rc rfl (by simpa using hd))

section
variable {P : Program} {n : Sz} {all : Array Oper}

theorem draw_sound {m : Nat} {sl hp rcs sl' hp'} (hm : ∀ t, m.testBit t = false → sl t = none) (hd : Der P all n all.toList sl hp rcs sl' hp') (hok : drawOK m all.toList rcs = true) {B : Base} {Q : Exit → Act → World → Prop} (hB : B.n = n)
    (hQ : ∀ cx' a' w', SatF B cx' sl' hp' a' w' → Q .normal a' w') : ∀ (fuel : Nat) (todo : List Nat) (listed : Array Bool) (D : Nat → Bool), todo.length = fuel → todo.Nodup → listed.size = all.size →
    (∀ i, i ∈ todo ↔ i < all.size ∧ D i = false) → (∀ i, i < all.size → listed.getD i true = D i ∧ listed.getD i false = D i) → (∀ i, all.size ≤ i → D i = false) →
    (∀ i o e, D i = true → all[i]? = some o → e ∈ o.after → Region.binds .any e = true → D e.on = true) →
    ∀ (cx : Cx) (a : Act) (w : World), SatF B cx (fold uS D 0 rcs sl) (fold uH D 0 rcs hp) a w → wpAny P .any all Q fuel listed a w := by
  obtain ⟨hlen, hat, hfin1, hfin2⟩ := hd.at 0
  have hok := drawOK_sound hok
  simp only [Bool.and_eq_true] at hok
  obtain ⟨hfit, hback⟩ := hok
  have hback : ∀ (i : Nat) o e, all[i]? = some o → e ∈ o.after → Region.binds .any e = true → e.on < i := by
    intro i o e ho he hb
    have := List.all_eq_true.1 hback (o, i) (by rw [List.mem_zipIdx_iff_getElem?]; simpa using ho)
    have := List.all_eq_true.1 this e (by simpa using he)
    simpa [hb] using this
  have hsz : rcs.length = all.size := by simpa using hlen
  -- what is not done yet can go on
  have hready : ∀ (listed : Array Bool) (D : Nat → Bool), (∀ i, i < all.size → listed.getD i true = D i ∧ listed.getD i false = D i) → (∀ i, all.size ≤ i → D i = false) → Region.ready .any all listed = [] → ∀ i, i < all.size → D i = true := by
    intro listed D hL hout hr i
    induction i using Nat.strongRecOn with
    | _ i ih =>
      intro hi
      cases hDi : D i with
      | true => rfl
      | false =>
        have : i ∈ Region.ready .any all listed := by
          rw [mem_ready]
          refine ⟨by rw [(hL i hi).1, hDi], all[i], Array.getElem?_eq_getElem hi, fun e he hb => ?_⟩
          have hlt := hback i _ e (Array.getElem?_eq_getElem hi) he hb
          rw [(hL e.on (by omega)).2]
          exact ih e.on hlt (by omega)
        rw [hr] at this; cases this
  have hdone : ∀ (D : Nat → Bool), (∀ i, i < all.size → D i = true) → fold uS D 0 rcs sl = sl' ∧ fold uH D 0 rcs hp = hp' := by
    intro D hD
    rw [hfin1, hfin2]
    refine ⟨?_, ?_⟩
    · funext t
      exact fold_congr upS rcs 0 sl sl rfl fun i rc hi hne => absurd (hD (0 + i) (by have := (List.getElem?_eq_some_iff.1 hi).1; omega)) hne
    · funext t
      exact fold_congr upH rcs 0 hp hp rfl fun i rc hi hne => absurd (hD (0 + i) (by have := (List.getElem?_eq_some_iff.1 hi).1; omega)) hne
  intro fuel
  induction fuel with
  | zero =>
    intro todo listed D h1 h2 h3 h4 h5 h6 h7 cx a w hs
    have hall : ∀ i, i < all.size → D i = true := fun i hi => by
      cases hDi : D i with
      | true => rfl
      | false =>
        have := (h4 i).2 ⟨hi, hDi⟩
        rw [List.length_eq_zero_iff.1 h1] at this; cases this
    obtain ⟨e1, e2⟩ := hdone D hall
    rw [e1, e2] at hs
    refine ⟨?_, hQ cx a w hs⟩
    cases hr : Region.ready .any all listed with
    | nil => rfl
    | cons i r =>
      have : i ∈ Region.ready .any all listed := by rw [hr]; exact List.mem_cons_self
      rw [mem_ready] at this
      obtain ⟨g1, o, g2, _⟩ := this
      have hi : i < all.size := (Array.getElem?_eq_some_iff.1 g2).1
      rw [(h5 i hi).1, hall i hi] at g1
      cases g1
  | succ fuel ih =>
    intro todo listed D h1 h2 h3 h4 h5 h6 h7 cx a w hs
    refine ⟨fun hr => ?_, fun i hi => ?_⟩
    · obtain ⟨e1, e2⟩ := hdone D (hready listed D h5 h6 hr)
      rw [e1, e2] at hs
      exact hQ cx a w hs
    · rw [mem_ready] at hi
      obtain ⟨g1, o, ho, g3⟩ := hi
      have hil : i < all.size := (Array.getElem?_eq_some_iff.1 ho).1
      rw [(h5 i hil).1] at g1
      have g3 : ∀ e ∈ o.after, Region.binds .any e = true → D e.on = true := fun e he hb => by
        have := g3 e he hb
        have hlt := hback i o e ho he hb
        rw [(h5 e.on (by omega)).2] at this
        exact this
      -- all that must come before it is done
      have hanc : ∀ (k : Nat) ok, all[k]? = some ok → (∀ e ∈ ok.after, Region.binds .any e = true → D e.on = true) → ∀ x, (nthN (ancs all.toList []) k).testBit x = true → D x = true := by
        intro k
        induction k using Nat.strongRecOn with
        | _ k ihk =>
          intro ok hk hed x hx
          obtain ⟨e, e1, e2, e3⟩ := ancs_bit all.toList [] k ok (by simpa using hk) (by simpa using hx)
          rcases e3 with rfl | e3
          · exact hed e e1 e2
          · have hlt := hback k ok e hk e1 e2
            have hksz : k < all.size := (Array.getElem?_eq_some_iff.1 hk).1
            have hek : e.on < all.size := by omega
            exact ihk e.on hlt _ (Array.getElem?_eq_getElem hek) (fun e' he' hb' => h7 e.on _ e' (hed e e1 e2) (Array.getElem?_eq_getElem hek) he' hb') x e3
      have hil2 : i < rcs.length := by omega
      let rc := rcs[i]
      have hrc : rcs[i]? = some rc := List.getElem?_eq_getElem hil2
      have before : ∀ (b : Nat) rb, rcs[b]? = some rb → b < i → D b = false → clash (twiceM rcs m 0) rb rc = false := by
        intro b rb hb hlt hDb
        cases hc : clash (twiceM rcs m 0) rb rc with
        | false => rfl
        | true =>
          have := fits_spec rcs [] 0 hfit rfl b i rb rc hlt (Nat.zero_le _) (by simpa using hb) (by simpa using hrc) hc
          rw [hanc i o ho g3 b this] at hDb
          cases hDb
      have behind : ∀ (b : Nat) rb, rcs[b]? = some rb → i < b → D b = true → clash (twiceM rcs m 0) rc rb = false := by
        intro b rb hb hlt hDb
        cases hc : clash (twiceM rcs m 0) rc rb with
        | false => rfl
        | true =>
          have := fits_spec rcs [] 0 hfit rfl i b rc rb hlt (Nat.zero_le _) (by simpa using hrc) (by simpa using hb) hc
          have hbl : b < all.size := by have := (List.getElem?_eq_some_iff.1 hb).1; omega
          rw [hanc b _ (Array.getElem?_eq_getElem hbl) (fun e he hb2 => h7 b _ e hDb (Array.getElem?_eq_getElem hbl) he hb2) i this] at g1
          cases g1
      have hagree : Agree rc (fold uS (fun x => decide (x < 0 + i)) 0 rcs sl) (fold uS D 0 rcs sl) (fold uH (fun x => decide (x < 0 + i)) 0 rcs hp) (fold uH D 0 rcs hp) := by
        have diff : ∀ (b : Nat) rb, rcs[b]? = some rb → D (0 + b) ≠ decide (0 + b < 0 + i) → (b < i ∧ D b = false) ∨ (i < b ∧ D b = true) ∨ b = i := by
          intro b rb _ hne
          rw [Nat.zero_add] at hne
          rcases Nat.lt_trichotomy b i with h | h | h
          · left; refine ⟨h, ?_⟩; cases hDb : D b with
            | false => rfl
            | true => simp [hDb, h] at hne
          · exact .inr (.inr h)
          · right; left; refine ⟨h, ?_⟩; cases hDb : D b with
            | true => rfl
            | false => simp [hDb] at hne; omega
        unfold Agree
        split
        · rename_i hbar
          have no : ∀ (b : Nat) rb, rcs[b]? = some rb → D (0 + b) ≠ decide (0 + b < 0 + i) → (b < i ∧ D b = false ∧ inert0 rc rb = true ∧ nil0 (mskF rb.wr) (twiceM rcs m 0) = true ∧ clash (twiceM rcs m 0) rb rc = false) ∨ (i < b ∧ D b = true ∧ clash (twiceM rcs m 0) rc rb = false) := by
            intro b rb hb hne
            rcases diff b rb hb hne with ⟨h1, h2⟩ | ⟨h1, h2⟩ | rfl
            · have hcl := before b rb hb h1 h2
              have := hcl
              simp only [clash, hbar, Bool.true_and, Bool.or_eq_false_iff] at this
              have h3 := this.1.1.1.1.2
              simp only [Bool.not_eq_false', Bool.and_eq_true] at h3
              exact .inl ⟨h1, h2, h3.1, h3.2, hcl⟩
            · exact .inr ⟨h1, h2, behind b rb hb h1 h2⟩
            · simp [g1] at hne
          have ine : ∀ rb, clash (twiceM rcs m 0) rc rb = false → InW (arrW rc.wh) rb ∧ (∀ t, t ∈ rb.wr.map Prod.fst → t ∉ rc.rd ∧ t ∉ rc.wr.map Prod.fst) ∧ ∀ t, t ∈ rb.wh.map Prod.fst → t ∉ rc.rh ∧ t ∉ rc.wh.map Prod.fst := fun rb hc => by
            simp only [clash, hbar, Bool.true_and, Bool.or_eq_false_iff] at hc
            exact ⟨inertA_parts (by simpa using hc.1.1.1.1.1), fun t ht => ⟨fun h => meets_not hc.1.1.2 h ht, fun h => meets_not hc.1.1.1.2 h (by rw [app_eq]; exact List.mem_append_right _ ht)⟩,
              fun t ht => ⟨fun h => meets_not hc.2 h ht, fun h => meets_not hc.1.2 h (by rw [app_eq]; exact List.mem_append_right _ ht)⟩⟩
          refine ⟨fun t => ?_, fun t => ?_⟩
          · by_cases hw0 : ∃ (b : Nat) (rb : Rec), rcs[b]? = some rb ∧ b < i ∧ D b = false ∧ t ∈ rb.wr.map Prod.fst
            · right
              obtain ⟨b, rb, w1, w2, w3, w4⟩ := hw0
              have hcl := before b rb w1 w2 w3
              have hcl2 := hcl
              simp only [clash, hbar, Bool.true_and, Bool.or_eq_false_iff] at hcl
              have h3 := hcl.1.1.1.1.2
              simp only [Bool.not_eq_false', Bool.and_eq_true] at h3
              have hbit : (twiceM rcs m 0).testBit t = false := by
                have h4 : mskF rb.wr &&& twiceM rcs m 0 = 0 := Nat.eq_of_beq_eq_true h3.2
                have h5 : (mskF rb.wr &&& twiceM rcs m 0).testBit t = false := by rw [h4]; simp
                rw [Nat.testBit_and, mskF_eq, (mskN_bit _ t).2 w4, Bool.true_and] at h5
                exact h5
              obtain ⟨o1, o2⟩ := twiceM_one rcs m 0 hbit b rb w1 w4
              refine ⟨fun h => meets_not hcl.1.1.1.2 w4 (by rw [app_eq]; exact List.mem_append_left _ h), fun h => meets_not hcl.1.1.1.2 w4 (by rw [app_eq]; exact List.mem_append_right _ h), .inl ?_⟩
              rw [fold_none rcs 0 sl (fun x rx y1 y2 y3 => ?_), hm t o1]
              have := o2 x rx y1 y3
              subst this
              rw [Nat.zero_add, w3] at y2
              cases y2
            by_cases hw : ∃ (b : Nat) (rb : Rec), rcs[b]? = some rb ∧ D (0 + b) ≠ decide (0 + b < 0 + i) ∧ t ∈ rb.wr.map Prod.fst
            · right
              obtain ⟨b, rb, w1, w2, w3⟩ := hw
              obtain ⟨n1, n2, n3⟩ := (no b rb w1 w2).resolve_left fun h => hw0 ⟨b, rb, w1, h.1, h.2.1, w3⟩
              obtain ⟨n4, n5, _⟩ := ine rb n3
              refine ⟨(n5 t w3).1, (n5 t w3).2, .inr <| fold_inert (m := i + 1) rcs 0 sl (fun x rx y1 y2 y3 y4 => ?_) ⟨b, rb, w1, by omega, by rw [Nat.zero_add]; exact n2, w3⟩⟩
              rw [Nat.zero_add] at y2 y3
              exact (ine rx (behind x rx y1 y2 y3)).1
            · left
              exact fold_congr upS rcs 0 sl sl rfl fun b rb hb hne hmem => hw ⟨b, rb, hb, hne, hmem⟩
          · by_cases hw : ∃ (b : Nat) (rb : Rec), rcs[b]? = some rb ∧ D (0 + b) ≠ decide (0 + b < 0 + i) ∧ t ∈ rb.wh.map Prod.fst
            · right
              obtain ⟨b, rb, w1, w2, w3⟩ := hw
              obtain ⟨n1, n2, n3⟩ := (no b rb w1 w2).resolve_left fun h => by rw [(inert0_parts h.2.2.1).2] at w3; cases w3
              obtain ⟨n4, _, n5⟩ := ine rb n3
              refine ⟨(n5 t w3).1, (n5 t w3).2, fold_inertH (m := i + 1) rcs 0 hp (fun x rx y1 y2 y3 y4 => ?_) ⟨b, rb, w1, by omega, by rw [Nat.zero_add]; exact n2, w3⟩⟩
              rw [Nat.zero_add] at y2 y3
              exact (ine rx (behind x rx y1 y2 y3)).1
            · left
              exact fold_congr upH rcs 0 hp hp rfl fun b rb hb hne hmem => hw ⟨b, rb, hb, hne, hmem⟩
        · refine ⟨fun t ht => fold_congr upS rcs 0 sl sl rfl fun b rb hb hne hmem => ?_, fun t ht => fold_congr upH rcs 0 hp hp rfl fun b rb hb hne hmem => ?_⟩
          · rcases diff b rb hb hne with ⟨h1, h2⟩ | ⟨h1, h2⟩ | rfl
            · have := before b rb hb h1 h2
              simp only [clash, Bool.or_eq_false_iff] at this
              exact meets_not this.1.1.1.2 hmem (by rw [app_eq]; exact List.mem_append_left _ ht)
            · have := behind b rb hb h1 h2
              simp only [clash, Bool.or_eq_false_iff] at this
              exact meets_not this.1.1.2 ht hmem
            · simp [g1] at hne
          · rcases diff b rb hb hne with ⟨h1, h2⟩ | ⟨h1, h2⟩ | rfl
            · have := before b rb hb h1 h2
              simp only [clash, Bool.or_eq_false_iff] at this
              exact meets_not this.1.2 hmem (by rw [app_eq]; exact List.mem_append_left _ ht)
            · have := behind b rb hb h1 h2
              simp only [clash, Bool.or_eq_false_iff] at this
              exact meets_not this.2 ht hmem
            · simp [g1] at hne
      have hmore1 : fold uS (fun x => x == i || D x) 0 rcs sl = uS (fold uS D 0 rcs sl) rc := fold_more upS hrc fun b rb hb hlt hDb t ht hmem => by
        have := behind b rb hb hlt hDb
        simp only [clash, Bool.or_eq_false_iff] at this
        exact meets_not this.1.1.1.2 ht (by rw [app_eq]; exact List.mem_append_right _ hmem)
      have hmore2 : fold uH (fun x => x == i || D x) 0 rcs hp = uH (fold uH D 0 rcs hp) rc := fold_more upH hrc fun b rb hb hlt hDb t ht hmem => by
        have := behind b rb hb hlt hDb
        simp only [clash, Bool.or_eq_false_iff] at this
        exact meets_not this.1.2 ht (by rw [app_eq]; exact List.mem_append_right _ hmem)
      refine wpOp_of ho (hat i o rc (by simpa using ho) hrc _ _ hagree B cx a w Q _ hB hs fun cx' a' w' hs' => ?_)
      refine ih (todo.erase i) _ (fun x => x == i || D x) ?_ (h2.erase i) (by simpa using h3) (fun x => ?_) (fun x hx => ?_) (fun x hx => ?_) (fun x ox e hx hox he hb => ?_) cx' a' w' ?_
      · rw [List.length_erase_of_mem ((h4 i).2 ⟨hil, g1⟩), h1]; rfl
      · rw [h2.mem_erase_iff, h4 x]
        simp only [Bool.or_eq_false_iff, beq_eq_false_iff_ne, ne_eq]
        exact ⟨fun ⟨h1, h2, h3⟩ => ⟨h2, h1, h3⟩, fun ⟨h1, h2, h3⟩ => ⟨h2, h1, h3⟩⟩
      · by_cases hxi : x = i
        · subst hxi
          have : x < listed.size := by omega
          simp [this]
        · rw [getD_set_ne true (Ne.symm hxi), getD_set_ne false (Ne.symm hxi), (h5 x hx).1, (h5 x hx).2]
          simp [hxi]
      · simp only [Bool.or_eq_false_iff, beq_eq_false_iff_ne, ne_eq]
        exact ⟨by omega, h6 x hx⟩
      · simp only [Bool.or_eq_true, beq_iff_eq] at hx ⊢
        rcases hx with rfl | hx
        · rw [ho] at hox; cases hox
          exact .inr (g3 e he hb)
        · exact .inr (h7 x ox e hx hox he hb)
      · rw [hmore1, hmore2]; exact hs'

theorem lk_cons_if (t : Nat) (s : SV) (e : List (Nat × SV)) (i : Nat) : lk ((t, s) :: e) i = if i = t then some s else lk e i := by rw [lk_cons]
theorem prune_sound {T0 : Nat} : ∀ {e seen : List (Nat × SV)} {K : List (Nat × SV) → Prop}, prune T0 e seen K → ∃ e', (∀ t s, lk e' t = some s → Nat.beq (Nat.land 1 (Nat.shiftRight T0 t)) 1 = true ∧ lk seen t = none ∧ lk e t = some s) ∧ K e'
  | [], seen, K, h => ⟨[], fun _ _ h => (by cases h), h⟩
  | (t, s) :: r, seen, K, h => by
    simp only [prune] at h
    split at h
    · rename_i hlt
      split at h
      · rename_i s0 hs0
        obtain ⟨e', h1, h2⟩ := prune_sound h
        refine ⟨e', fun t' s' h3 => ?_, h2⟩
        obtain ⟨g1, g2, g3⟩ := h1 t' s' h3
        refine ⟨g1, g2, ?_⟩
        rw [lk_cons_if, if_neg (fun e => by subst e; rw [hs0] at g2; cases g2)]
        exact g3
      · rename_i hs0
        obtain ⟨e', h1, h2⟩ := prune_sound h
        refine ⟨_, fun t' s' h3 => ?_, h2⟩
        rw [lk_cons_if] at h3 ⊢
        split at h3
        · rename_i he; subst he; cases h3
          exact ⟨hlt, hs0, by simp⟩
        · rename_i he
          obtain ⟨g1, g2, g3⟩ := h1 t' s' h3
          rw [lk_cons_if, if_neg he] at g2
          rw [if_neg he]
          exact ⟨g1, g2, g3⟩
    · rename_i hlt
      obtain ⟨e', h1, h2⟩ := prune_sound h
      refine ⟨e', fun t' s' h3 => ?_, h2⟩
      obtain ⟨g1, g2, g3⟩ := h1 t' s' h3
      refine ⟨g1, g2, ?_⟩
      rw [lk_cons_if, if_neg (fun (e : t' = t) => by subst e; rw [g1] at hlt; cases hlt)]
      exact g3
theorem SatF.less {B cx sl sl' hp a w} (h : SatF B cx sl hp a w) (hl : ∀ t s, sl' t = some s → sl t = some s) : SatF B cx sl' hp a w :=
  ⟨h.df, h.sz, fun t s hs => h.sl t s (hl t s hs), h.mem, h.fr⟩
end
end Go.Fw
