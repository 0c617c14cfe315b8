/- The executor is sound: append onto an owned slice. -/
import Derived.Test.YtgkkceoocaincaaFwAC
namespace Go.Fw
section
variable {P : Program} {TT : Nat → TI} {n : Sz} {e : List (Nat × SV)} {h : List OB} {K : Rec → Prop}
variable {dst : Option Nat} {ty : TypeId} {pos : String} {after : Array Edge} {guard : Option (Nat × Bool)}

theorem app_own {t : TypeId} {E bytes : Nat} {el : TypeId} {i : TypeInfo} {z : Value} (F : SlcFacts P t E bytes el i z) {cx : Cx} {w : World} {rows xs : List SV} {v x : Value} {hp : Nat → Option OB} {k : Nat} {keep : Nat → Prop}
    (hm : Mem cx w hp) (hk : hp k = some (.arr E rows)) (hkeep : ¬ keep k) (h0 : RelC cx w (.ov E k 0 rows.length) [v]) (hx : RowsAt cx w E xs x) (hroom : roomOK (rows.length + xs.length) bytes) :
    ∃ v' cx' w', (Builtin.append_ #[t, t] ty #[v, x]).run P w = .ok v' w' ∧ ExtX k cx w cx' w' ∧ Fr keep cx w cx' w' ∧ Mem cx' w' (fun j => if j = k then some (.arr E (rows ++ xs)) else killHp k hp j) ∧
      RelV cx' w' (.ov E k 0 (rows ++ xs).length) v' := by
  obtain ⟨a, c, news, rfl, hnl, hn1, ha0, hac, hseg⟩ := hx
  have hlive := hm.live k _ hk
  have h0r : RowsAt cx w E rows v := by
    have := ov_rowsAt h0 hlive (by simp)
    simpa using this
  -- the case that nothing is laid anew: the value stays, the block too
  have grow : ∀ (b : Option Addr) (sCap : Nat), v = .slice b rows.length sCap → sCap < rows.length + xs.length →
      ∃ v' cx' w', (Builtin.append_ #[t, t] ty #[v, .slice a xs.length c]).run P w = .ok v' w' ∧ ExtX k cx w cx' w' ∧ Fr keep cx w cx' w' ∧ Mem cx' w' (fun j => if j = k then some (.arr E (rows ++ xs)) else killHp k hp j) ∧
        RelV cx' w' (.ov E k 0 (rows ++ xs).length) v' := by
    intro b sCap hv hg
    subst hv
    obtain ⟨b', c', olds, hve, hol, ho1, hb0, hbc, hoseg⟩ := h0r
    cases hve
    have hh : w.drew.heap = w.heap := rfl
    have hfo := first_of (P := P) (size := i.size) (c := sCap) (by rw [F.hE]; exact hol) hb0 hbc hh
    have hf := first_of (P := P) (size := i.size) (c := c) (by rw [F.hE]; exact hnl) ha0 hac hh
    have hrun := run_app_grow (ty := ty) w t el i z F.ht F.hi F.hz b rows.length sCap olds hfo a xs.length c news hf hg (by have := hroom.2; omega) (by rw [F.hb]; have := hroom.1; omega)
    have hcg := grownCap_ge w (rows.length + xs.length) sCap el
    generalize hC : grownCap w (rows.length + xs.length) sCap el = C at hrun hcg
    generalize htl : (Builtin.zeroCells z.cells (C - (rows.length + xs.length))).toList = tail at hrun
    have htail : tail.length = (C - (rows.length + xs.length)) * E := by rw [← htl, Array.length_toList, size_zeroCells, F.hzc]
    have hX : ExtX k cx w (cx.with k (.at w.heap.size C) (fun b => cx.O b ∨ b = w.heap.size)) (w.drew.alloc (.cells (olds ++ news ++ tail).toArray el)) := by
      refine ⟨fun j y hj hy => by simp [Cx.with, hj, hy], fun b hb _ => ?_, fun b hb => ?_⟩
      · exact heap_alloc_old w.drew _ b hb
      · rcases hb with hb | hb
        · exact .inl hb
        · exact .inr (by omega)
    refine ⟨_, cx.with k (.at w.heap.size C) (fun b => cx.O b ∨ b = w.heap.size), _, hrun, hX, ?_, ?_, ?_⟩
    · refine ⟨by rw [heap_alloc_size]; exact Nat.le_succ _, fun b hb _ => heap_alloc_old w.drew _ b hb, hX.own, fun _ _ h => .inl h, fun j b C' hj => ?_, fun j hj => ?_, ⟨rfl, rfl, fun a => RowKit.frozen?_alloc_cells w.drew _ el a⟩⟩
      · by_cases hjk : j = k
        · subst hjk; simp [Cx.with] at hj; exact .inr (by omega)
        · simp [Cx.with, hjk] at hj; exact .inl hj
      · have : j ≠ k := fun e => hkeep (e ▸ hj)
        simp [Cx.with, this]
    · refine mem_rebind hm hX hk (by simp) (by simp) (fun j ob b C' hj hob hog hb => ?_) (fun b _ hb => .inl hb) (fun b C' hb => ?_) (fun j hj => by simp [Cx.with, hj]) (fun b hb => ?_) (.inl ⟨w.heap.size, C, by simp [Cx.with], .inr rfl, ?_⟩)
      · exact heap_alloc_old w.drew _ b (hm.lt b (live_at hm hob hb hog).1)
      · simp [Cx.with] at hb; exact .inr (by omega)
      · rw [heap_alloc_size]
        show b < w.heap.size + 1
        rcases hb with hb | hb
        · have := hm.lt b hb; omega
        · omega
      · refine ⟨_, el, heap_alloc_new _ _, ?_, by simp; omega, fun j s hs => ?_⟩
        · simp only [List.length_append, hol, hnl, htail]
          rw [← Nat.add_mul, ← Nat.add_mul]; congr 1; omega
        · have := seg_app (tail := tail) hol hnl hoseg hseg j s hs
          exact this.mono hX.bare
    · show RelC _ _ _ [_]
      have := RelC.ov (cx := cx.with k (.at w.heap.size C) (fun b => cx.O b ∨ b = w.heap.size)) (w := w.drew.alloc (.cells (olds ++ news ++ tail).toArray el)) (E := E) (k := k) (off := 0) (n := (rows ++ xs).length) (b := w.heap.size) (C := C) (by simp [Cx.with]) (by simp; omega)
      simpa using this
  have refl : ExtX k cx w cx w := ⟨fun _ _ _ h => h, fun _ _ _ => rfl, fun _ h => .inl h⟩
  have stay : ∀ (b : Option Addr) (sCap : Nat), v = .slice b rows.length sCap → rows.length ≤ sCap → xs.length = 0 →
      ∃ v' cx' w', (Builtin.append_ #[t, t] ty #[v, .slice a xs.length c]).run P w = .ok v' w' ∧ ExtX k cx w cx' w' ∧ Fr keep cx w cx' w' ∧ Mem cx' w' (fun j => if j = k then some (.arr E (rows ++ xs)) else killHp k hp j) ∧
        RelV cx' w' (.ov E k 0 (rows ++ xs).length) v' := by
    intro b sCap hv hle hx0
    have hxs : xs = [] := List.length_eq_zero_iff.1 hx0
    subst hxs hv
    refine ⟨_, cx, w, run_app_zero w t ty el i F.ht F.hi b rows.length sCap a c hle, refl, Fr.refl _ _ _, ?_, by show RelC _ _ _ [_]; simpa using h0⟩
    rw [List.append_nil]
    exact mem_rebind hm refl hk (by simp) (by simp) (fun _ _ _ _ _ _ _ _ => rfl) (fun _ _ h => h) (fun b C' hb => .inl ⟨C', hb⟩) (fun _ _ => rfl) hm.lt hlive
  generalize hrl : rows.length = rl at h0
  cases h0 with
  | ov hb hC =>
    rename_i b C
    subst hrl
    by_cases hfit : rows.length + xs.length ≤ C
    · obtain ⟨hO, vs, T, hh, hlen, hrC, hrows⟩ := live_at hm hk hb (by simp)
      have hf := first_of (P := P) (w := w) (size := i.size) (c := c) (by rw [F.hE]; exact hnl) ha0 hac rfl
      have hCE : (rows.length + xs.length) * E ≤ C * E := Nat.mul_le_mul_right E hfit
      rw [Nat.add_mul] at hCE
      have hrun := run_app_room (ty := ty) w t el i F.ht F.hi b (0 * E) rows.length (C - 0) vs.toArray T hh a xs.length c news hf hn1 (by omega) (by rw [F.hE]; simp; omega)
      rw [F.hE] at hrun
      simp only [Nat.zero_mul, Nat.zero_add, List.toList_toArray] at hrun
      have hX : ExtX k cx w cx (w.setRow b (vs.take (rows.length * E) ++ news ++ vs.drop (rows.length * E + news.length)).toArray) :=
        ⟨fun _ _ _ h => h, (ext_set cx w b _ hO).same, fun _ h => .inl h⟩
      refine ⟨_, cx, _, by simpa using hrun, hX, fr_set keep cx w k b C _ hb, ?_, ?_⟩
      · refine mem_rebind hm hX hk (by simp) (by simp) (fun j ob b' C' hj hob hog hb' => ?_) (fun _ _ h => h) (fun b' C' hb' => .inl ⟨C', hb'⟩) (fun _ _ => rfl) (fun b' hb' => by rw [setRow_size]; exact hm.lt b' hb') (.inl ⟨b, C, hb, hO, ?_⟩)
        · exact setRow_other w b b' _ fun e1 => hj (hm.inj j k _ _ b C' C hob hk hog (by simp) (e1 ▸ hb') hb)
        · refine ⟨_, T, setRow_heap w b _ _ T _ hh, by simp; omega, by simp; omega, fun j s hs => ?_⟩
          have hol : (vs.take (rows.length * E)).length = rows.length * E := by simp; omega
          have hoseg : ∀ i s, rows[i]? = some s → RelC cx.bare w s (((vs.take (rows.length * E)).drop (i * E)).take E) := by
            intro i s hs
            have hi : i < rows.length := (List.getElem?_eq_some_iff.1 hs).1
            have hiE : (i + 1) * E ≤ rows.length * E := Nat.mul_le_mul_right E hi
            rw [Nat.add_mul, Nat.one_mul] at hiE
            have : ((vs.take (rows.length * E)).drop (i * E)).take E = (vs.drop (i * E)).take E := by
              rw [List.drop_take, List.take_take, Nat.min_eq_left (by omega)]
            rw [this]; exact hrows i s hs
          have := seg_app (tail := vs.drop (rows.length * E + news.length)) hol hnl hoseg hseg j s hs
          exact this.mono hX.bare
      · show RelC _ _ _ [_]
        have := RelC.ov (cx := cx) (w := w.setRow b (vs.take (rows.length * E) ++ news ++ vs.drop (rows.length * E + news.length)).toArray) (E := E) (k := k) (off := 0) (n := (rows ++ xs).length) (b := b) (C := C) hb (by simp; omega)
        simpa using this
    · exact grow _ _ rfl (by omega)
  | ov0 hb =>
    by_cases hx0 : xs.length = 0
    · exact stay _ _ (by rw [hrl]) (by omega) hx0
    · exact grow _ _ (by rw [hrl]) (by omega)
  | ovz hb =>
    by_cases hx0 : xs.length = 0
    · exact stay _ _ (by rw [hrl]) (by omega) hx0
    · exact grow _ _ (by rw [hrl]) (by omega)

theorem s_append {t : TypeId} {E bytes : Nat} {sx1 sx2 : SV} {z : SV} {x1 x2 : Operand} {c : Call} (hT : TTok P TT) (hn : inFrame n dst = true) (hc : c.callee = .builtin .append) (hargs : c.args.toList = [x1, x2])
    (hat : c.argTypes.toList = [t, t]) (hti : TT t = .slc E bytes z) (h1 : OpdR (lk e) x1 sx1) (h2 : OpdR (lk e) x2 sx2) (hk : execAppend n ⟨dst, .call c, ty, pos, after, guard⟩ e h E bytes sx1 sx2 K) :
    Goal P ⟨dst, .call c, ty, pos, after, guard⟩ n e h K := by
  obtain ⟨el, i, z', F⟩ := slcFacts hT hti
  obtain ⟨callee, args, argTypes⟩ := c
  simp only at hc hargs hat
  subst hc
  have ea : args = #[x1, x2] := by cases args; simp_all
  have et : argTypes = #[t, t] := by cases argTypes; simp_all
  subst ea et
  have exec : ∀ (w : World) (a : Act) (v : Value) (w' : World), (Builtin.append_ #[t, t] ty #[a.eval x1, a.eval x2]).run P w = .ok v w' →
      (execOp a.eval ⟨dst, .call ⟨.builtin .append, #[x1, x2], #[t, t]⟩, ty, pos, after, guard⟩).run P w = .ok (.value v) w' := by
    intro w a v w' hr
    simp [execOp, resolve, invoke, builtin, hr]
  have r1 : ∀ (cx : Cx) (w : World) (a : Act), Reads (lk e) (slotsOf (Op.call ⟨.builtin .append, #[x1, x2], #[t, t]⟩).operands.toList) cx w a → RelV cx w sx1 (a.eval x1) := fun cx w a hr =>
    h1.rel hr fun t ht => mem_slotsOf (by simp [Op.operands, Call.operands, ht])
  have r2 : ∀ (cx : Cx) (w : World) (a : Act), Reads (lk e) (slotsOf (Op.call ⟨.builtin .append, #[x1, x2], #[t, t]⟩).operands.toList) cx w a → RelV cx w sx2 (a.eval x2) := fun cx w a hr =>
    h2.rel hr fun t ht => mem_slotsOf (by simp [Op.operands, Call.operands, ht])
  unfold execAppend at hk
  obtain ⟨xs, ks, hk1, hrows⟩ := rowsOf_sound hk
  clear hk
  have new : ∀ (r0 : List SV) (sCap : Nat), (∀ cx w v, RelV cx w sx1 v → RowsAt cx w E r0 v ∧ ∀ a l c, v = .slice a l c → c = sCap) → (sCap < r0.length + xs.length ∨ (r0 = [] ∧ sCap = 0)) → roomOK (r0.length + xs.length) bytes →
      OpD P ⟨dst, .call ⟨.builtin .append, #[x1, x2], #[t, t]⟩, ty, pos, after, guard⟩ n (lk e) (nthB h)
        ⟨slotsOf (Op.call ⟨.builtin .append, #[x1, x2], #[t, t]⟩).operands.toList, len h :: ks, dst1 dst (.ov E (len h) 0 (r0 ++ xs).length), [(len h, .arr E (r0 ++ xs))], false⟩ := by
    intro r0 sCap hr0 hne hroom
    refine opD_mem hn rfl rfl rfl fun hp' hh cx w a keep hr hm hkeep => ?_
    obtain ⟨hra, hcap⟩ := hr0 cx w _ (r1 cx w a hr)
    have hxr := hrows cx w _ hp' (fun k hk => hh k (List.mem_cons_of_mem _ hk)) hm (r2 cx w a hr)
    obtain ⟨v', cx', w', e1, e2, e3, e4, e5⟩ := app_new (ty := ty) F hm (k := len h) (by rw [hh _ List.mem_cons_self]; exact nthB_len h) hkeep hra hcap hxr hne hroom
    exact ⟨v', cx', w', exec w a v' w' e1, e2, e3, e4, e5⟩
  split at hk1
  · obtain ⟨hroom, hk⟩ := need_iff.1 hk1
    refine ⟨_, new [] 0 (fun cx w v hv => ?_) (.inr ⟨rfl, rfl⟩) (by simpa using hroom), by simpa using hk⟩
    rw [relV_v hv]
    exact ⟨⟨_, _, [], rfl, by simp, by simp, fun _ => rfl, fun _ _ _ _ h => by simp at h, fun _ _ h => by simp at h⟩, fun a l c hh => by cases hh; rfl⟩
  · rename_i tg E0 rows
    split at hk1
    · rename_i c0 hE hcp
      have hE := Nat.eq_of_beq_eq_true hE
      subst hE
      obtain ⟨⟨hne, hroom⟩, hk⟩ := need_iff.1 hk1
      refine ⟨_, new rows c0 (fun cx w v hv => ?_) hne hroom, hk⟩
      refine ⟨fs_rowsAt hv, fun a l c hh => ?_⟩
      have hv : RelC cx w (.fs tg E0 rows) [v] := hv
      cases hv with
      | fs0 ho => cases hh; exact ho.2 _ hcp
      | fs f _ _ _ ht => cases hh; exact ht.2 _ hcp
    · exact hk1.elim
  · rename_i E0 k off m
    split at hk1
    · rename_i E1 rows hb hoff hs
      split at hk1
      · rename_i hE1
        rw [Bool.and_eq_true] at hb
        have hE0 := Nat.eq_of_beq_eq_true hb.1
        have hE1 := Nat.eq_of_beq_eq_true hE1
        have hoff := Nat.eq_of_beq_eq_true hoff
        have hn0 : n.n0 ≤ k := by simpa using hb.2
        subst hE0 hE1 hoff
        obtain ⟨⟨hm0, hroom⟩, hk⟩ := need_iff.1 hk1
        subst hm0
        refine ⟨_, ?_, hk⟩
        intro sl' hp' ha B cx a w Q K' hB hsat hK
        simp only [Agree, if_true] at ha
        obtain ⟨rfl, rfl⟩ := ha
        have hnk : ¬ B.keep k := fun hk2 => by
          have := B.kn k hk2
          rw [hB] at this; omega
        have hr : Reads (lk e) (slotsOf (Op.call ⟨.builtin .append, #[x1, x2], #[t, t]⟩).operands.toList) cx w a := .of_sat hsat fun _ _ => rfl
        have hxr := hrows cx w _ (nthB h) (fun _ _ => rfl) hsat.mem (r2 cx w a hr)
        obtain ⟨v', cx', w', e1, e2, e3, e4, e5⟩ := app_own (ty := ty) (keep := B.keep) F hsat.mem hs hnk (r1 cx w a hr) hxr hroom
        refine wp_value (exec w a v' w' e1) (hK cx' _ w' ?_)
        rw [killsH_hp k h E1 (rows ++ xs) E1 rows hs, app_eq]
        subst hB
        refine ⟨hsat.df.symm ▸ by cases dst <;> rfl, by cases dst <;> simp [Act.put, hsat.sz], fun u s hu => ?_, e4, hsat.fr.trans e3 (fun _ h => h)⟩
        have inner : ∀ u s, updSl (lk e) (killsE k e) u = some s → ∃ v, a.tmps[u]? = some v ∧ RelV cx' w' s v := by
          intro u s hu
          rcases updSl_inv _ _ u s hu with ⟨s', h3, h4⟩ | ⟨h3, h4⟩
          · obtain rfl := killsE_mem h3
            subst h4
            obtain ⟨s0, hs0⟩ := killsE_some h3
            obtain ⟨v, hv, _⟩ := hsat.sl u s0 hs0
            exact ⟨v, hv, trivial⟩
          · obtain ⟨v, hv, hrv⟩ := hsat.sl u s h3
            exact ⟨v, hv, hrv.nomen (killsE_not h3 h4) e2⟩
        cases dst with
        | none =>
          simp only [dst1, List.append_nil] at hu
          exact inner u s hu
        | some d =>
          have hd : d < B.n.n := by simpa [inFrame] using hn
          simp only [dst1, updSl_snoc] at hu
          by_cases hud : u = d
          · subst hud
            simp only [if_true, Option.some.injEq] at hu
            subst hu
            exact ⟨v', by simp [Act.put, hsat.sz, hd], e5⟩
          · simp only [if_neg hud] at hu
            obtain ⟨v, hv, hrv⟩ := inner u s hu
            exact ⟨v, by simpa [Act.put, Array.getElem?_setIfInBounds_ne (Ne.symm hud)] using hv, hrv⟩
      · exact hk1.elim
    · exact hk1.elim
  · exact hk1.elim
end
end Go.Fw
