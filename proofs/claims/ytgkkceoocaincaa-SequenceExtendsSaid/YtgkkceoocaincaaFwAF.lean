/- The executor is sound: calls, whole. -/
import Derived.Test.YtgkkceoocaincaaFwAE
namespace Go.Fw

def Cx.minus (cx : Cx) (ks : List Nat) : Cx := ⟨cx.bl, fun b => cx.O b ∧ ∀ k ∈ ks, ∀ C, cx.bl k ≠ some (.at b C)⟩
theorem ext_minus (cx : Cx) (w : World) (ks : List Nat) : Ext cx w (cx.minus ks) w := ⟨fun _ _ h => h, fun _ _ _ => rfl, fun _ h => .inl h.1⟩

theorem minus_fs {cx : Cx} {w : World} {ks : List Nat} {E : Nat} {rows : List SV} {b off cap : Nat} {vs : List Value} {T : TypeId} {k C : Nat} (hh : w.heap[b]? = some (.cells vs.toArray T (0, 0))) (hk : k ∈ ks) (hb : cx.bl k = some (.at b C))
    (hc : rows.length ≤ cap) (hfit : off + rows.length * E ≤ vs.length) (hr : ∀ i s, rows[i]? = some s → RelC cx.bare w s ((vs.drop (off + i * E)).take E)) :
    RelC (cx.minus ks) w (.fs .no E rows) [.slice (some ⟨b, off, none⟩) rows.length cap] := by
  refine .fs (fun i => (vs.drop (off + i * E)).take E) hh (fun h => h.2 k hk C hb) hc Tg.ok_no (fun i s hs => (hr i s hs).mono (ext_minus cx w ks).bare) (fun i hi => ?_) (fun i hi j x hj => ?_)
  · have hiE : (i + 1) * E ≤ rows.length * E := Nat.mul_le_mul_right E hi
    rw [Nat.add_mul, Nat.one_mul] at hiE
    simp; omega
  · simp only [List.getElem?_take, List.getElem?_drop] at hj
    split at hj
    · simpa using hj
    · cases hj

theorem lend_one {h : List OB} {s : SV} {K : Nat → List SV → List Nat → Prop} (hs : (∃ E k o m, s = .ov E k o m) ∨ ∃ k p o m, s = .sb k p o m) (hk : rowsOf' h s K) : ∃ E xs ks, K E xs ks ∧ (∀ k ∈ ks, ∃ ob, nthB h k = some ob ∧ ob ≠ .gone) ∧
    ∀ (cx : Cx) (w : World) (v : Value) (hp' : Nat → Option OB) (kk : List Nat), (∀ k ∈ ks, hp' k = nthB h k) → (∀ k ∈ ks, k ∈ kk) → Mem cx w hp' → RelV1 cx w s v → RelV1 (cx.minus kk) w (.fs .no E xs) v := by
  rcases hs with ⟨E, k, off, m, rfl⟩ | ⟨k, p, off, m, rfl⟩
  · simp only [rowsOf'] at hk
    split at hk
    · rename_i E' rows hs
      split at hk
      · rename_i hE
        have hE := Nat.eq_of_beq_eq_true hE
        subst hE
        obtain ⟨hle, hk⟩ := need_iff.1 hk
        refine ⟨_, _, _, hk, fun k hk => by rw [List.mem_singleton.1 hk]; exact ⟨_, hs, by simp⟩, fun cx w v hp' kk hh hkk hm hr => ?_⟩
        have hl := hm.live k _ (by rw [hh k (by simp), hs])
        have hlen : ((rows.drop off).take m).length = m := by simp; omega
        have hr : RelC cx w (.ov E k off m) [v] := hr
        show RelC _ _ _ [v]
        cases hr with
        | ov hb hC =>
          rename_i b C
          rcases hl with ⟨b', C', hb', _, vs, T, hh', hlen', hrl, hrows⟩ | ⟨hb', _⟩
          · rw [hb] at hb'; cases hb'
            have hCE : (off + m) * E ≤ C * E := Nat.mul_le_mul_right E hC
            rw [Nat.add_mul] at hCE
            have hmC : m ≤ C - off := by omega
            have := minus_fs (ks := kk) (rows := (rows.drop off).take m) (off := off * E) (cap := C - off) hh' (hkk k (by simp)) hb (by rw [hlen]; exact hmC) (by rw [hlen, hlen']; omega) (fun i s hs => by
              simp only [List.getElem?_take, List.getElem?_drop] at hs
              split at hs
              · rw [← Nat.add_mul]; exact hrows (off + i) s hs
              · cases hs)
            rw [hlen] at this
            exact this
          · rw [hb] at hb'; cases hb'
        | ov0 => simp; exact .fs0 Tg.ok_no
        | ovz => simp; exact .fs0 Tg.ok_no
      · exact hk.elim
    · exact hk.elim
  · simp only [rowsOf'] at hk
    split at hk
    · rename_i s0 hs
      obtain ⟨y, hk, hle, hy⟩ := follow_sound _ _ _ hk
      split at hk
      · rename_i nb l
        obtain ⟨hle2, hk⟩ := need_iff.1 hk
        refine ⟨_, _, _, hk, fun k hk => by rw [List.mem_singleton.1 hk]; exact ⟨_, hs, by simp⟩, fun cx w v hp' kk hh hkk hm hr => ?_⟩
        have hl := hm.live k _ (by rw [hh k (by simp), hs])
        have hr : RelC cx w (.sb k p off m) [v] := hr
        show RelC _ _ _ [v]
        cases hr with
        | sb hb hC =>
          rename_i b C cap
          rcases hl with ⟨b', C', hb', _, vs, T, hh', hrc⟩ | ⟨hb', _⟩
          · rw [hb] at hb'; cases hb'
            have hrb := hy cx w vs hrc
            have hvl := hrc.width
            generalize hseg0 : (vs.drop (offs p)).take (wd (SV.ba nb l)) = seg at hrb
            cases hrb with
            | ba hln =>
              have hlen : (((bytesRows l).drop off).take m).length = m := by simp [bytesRows]; omega
              simp only [wd] at hle hseg0
              have := minus_fs (ks := kk) (E := 1) (rows := ((bytesRows l).drop off).take m) (off := offs p + off) (cap := cap) hh' (hkk k (by simp)) hb (by rw [hlen]; omega) (by rw [hlen]; omega) (fun i s hs => by
                simp only [List.getElem?_take, List.getElem?_drop] at hs
                split at hs
                · rename_i hi
                  have h1 := bytes_seg (cx := cx.bare) (w := w) l (off + i) s hs
                  rw [← hseg0, Nat.mul_one, List.drop_take, List.drop_drop, List.take_take] at h1
                  rw [Nat.mul_one, Nat.add_assoc]
                  rw [Nat.min_eq_left (by omega)] at h1
                  exact h1
                · cases hs)
              rw [hlen] at this
              exact this
          · rw [hb] at hb'; cases hb'
      · exact hk.elim
    · exact hk.elim

theorem lendK_sound {h : List OB} : ∀ {l : List SV} {K : List SV → List Nat → Prop}, lendK h l K → ∃ l' ks, K l' ks ∧ (∀ k ∈ ks, ∃ ob, nthB h k = some ob ∧ ob ≠ .gone) ∧
    ∀ (cx : Cx) (w : World) (vals : List Value) (hp' : Nat → Option OB) (kk : List Nat), (∀ k ∈ ks, hp' k = nthB h k) → (∀ k ∈ ks, k ∈ kk) → Mem cx w hp' → RelVL cx w l vals → RelVL (cx.minus kk) w l' vals
  | [], K, hk => ⟨[], [], hk, fun _ h => (by cases h), fun cx w vals hp' kk _ _ _ hr => by cases hr; exact .nil⟩
  | s :: r, K, hk => by
    have rest : ∀ {s' : SV} {ks0 : List Nat}, lendK h r (fun l ks => K (s' :: l) (app ks0 ks)) → (∀ k ∈ ks0, ∃ ob, nthB h k = some ob ∧ ob ≠ .gone) →
        (∀ (cx : Cx) (w : World) (v : Value) (hp' : Nat → Option OB) (kk : List Nat), (∀ k ∈ ks0, hp' k = nthB h k) → (∀ k ∈ ks0, k ∈ kk) → Mem cx w hp' → RelV1 cx w s v → RelV1 (cx.minus kk) w s' v) →
        ∃ l' ks, K l' ks ∧ (∀ k ∈ ks, ∃ ob, nthB h k = some ob ∧ ob ≠ .gone) ∧ ∀ (cx : Cx) (w : World) (vals : List Value) (hp' : Nat → Option OB) (kk : List Nat), (∀ k ∈ ks, hp' k = nthB h k) → (∀ k ∈ ks, k ∈ kk) → Mem cx w hp' → RelVL cx w (s :: r) vals → RelVL (cx.minus kk) w l' vals := by
      intro s' ks0 hk hl0 hs
      obtain ⟨l', ks, hk, hl1, hr⟩ := lendK_sound hk
      refine ⟨_, _, hk, fun k hk => ?_, fun cx w vals hp' kk h1 h2 hm hv => ?_⟩
      · rw [app_eq] at hk
        exact (List.mem_append.1 hk).elim (hl0 k) (hl1 k)
      rw [app_eq] at h1 h2
      cases hv with
      | cons hv1 hv2 =>
        exact .cons (hs cx w _ hp' kk (fun k hk => h1 k (List.mem_append_left _ hk)) (fun k hk => h2 k (List.mem_append_left _ hk)) hm hv1)
          (hr cx w _ hp' kk (fun k hk => h1 k (List.mem_append_right _ hk)) (fun k hk => h2 k (List.mem_append_right _ hk)) hm hv2)
    simp only [lendK] at hk
    split at hk
    · obtain ⟨E, xs, ks0, hk, hl, hs⟩ := lend_one (.inl ⟨_, _, _, _, rfl⟩) hk
      exact rest hk hl hs
    · obtain ⟨E, xs, ks0, hk, hl, hs⟩ := lend_one (.inr ⟨_, _, _, _, rfl⟩) hk
      exact rest hk hl hs
    · exact rest (s' := s) (ks0 := []) hk (fun _ h => by cases h) fun cx w v hp' kk _ _ _ hv => hv.mono (ext_minus cx w kk)

theorem outHp_fst (g : Nat → Nat) : ∀ (hp : List OB) (j : Nat), (outHp g j hp).map Prod.fst = (List.range' j hp.length).map g
  | [], _ => rfl
  | _ :: r, j => by simp [outHp, outHp_fst g r (j + 1), List.range'_succ]

/-- Writes at different places. -/
theorem updHp_get : ∀ (l : List (Nat × OB)) (hp : Nat → Option OB), (l.map Prod.fst).Nodup → (∀ k ob, (k, ob) ∈ l → updHp hp l k = some ob) ∧ (∀ (k : Nat), k ∉ l.map Prod.fst → updHp hp l k = hp k)
  | [], hp, _ => ⟨fun _ _ h => (by cases h), fun _ _ => rfl⟩
  | (k0, ob0) :: r, hp, hn => by
    simp only [List.map_cons, List.nodup_cons] at hn
    obtain ⟨h1, h2⟩ := updHp_get r (fun i => if i = k0 then some ob0 else hp i) hn.2
    refine ⟨fun k ob hk => ?_, fun k hk => ?_⟩
    · rcases List.mem_cons.1 hk with hk | hk
      · cases hk
        simp only [updHp]
        rw [h2 _ hn.1]; simp
      · exact h1 k ob hk
    · simp only [List.map_cons, List.mem_cons, not_or] at hk
      simp only [updHp]
      rw [h2 k hk.2]; simp [hk.1]
theorem outHp_mem (g : Nat → Nat) : ∀ (hp : List OB) (j : Nat) (i : Nat) (ob : OB), hp[i]? = some ob → (g (j + i), renOB g ob) ∈ outHp g j hp
  | [], _, i, ob, h => by simp at h
  | x :: r, j, 0, ob, h => by simp at h; subst h; exact List.mem_cons_self
  | x :: r, j, i + 1, ob, h => by
    have := outHp_mem g r (j + 1) i ob (by simpa using h)
    rw [show j + (i + 1) = j + 1 + i by omega]
    exact List.mem_cons_of_mem _ this
theorem outHp_inv (g : Nat → Nat) : ∀ (hp : List OB) (j : Nat) (k : Nat) (ob : OB), (k, ob) ∈ outHp g j hp → ∃ i x, hp[i]? = some x ∧ k = g (j + i) ∧ ob = renOB g x
  | [], _, _, _, h => by cases h
  | x :: r, j, k, ob, h => by
    rcases List.mem_cons.1 h with h | h
    · cases h; exact ⟨0, x, rfl, rfl, rfl⟩
    · obtain ⟨i, y, h1, h2, h3⟩ := outHp_inv g r (j + 1) k ob h
      exact ⟨i + 1, y, by simpa using h1, by rw [h2]; congr 1; omega, h3⟩
theorem nthN_eq : ∀ (l : List Nat) (i : Nat), nthN l i = l.getD i 0
  | [], i => by simp [nthN]
  | x :: r, 0 => by simp [nthN]
  | x :: r, i + 1 => by simp [nthN, nthN_eq r i]

theorem isCells_kind {hp : List OB} {k : Nat} (h : ∃ s, hp[k]? = some (OB.cells s)) : isCells (nthB hp) k := by
  obtain ⟨s, h⟩ := h; exact ⟨s, by rw [nthB_eq]; exact h⟩

mutual
theorem ren_cl2 (g : Nat → Nat) : ∀ (s : SV), cl2 (ren g s) = cl2 s
  | .v _ => rfl
  | .ba .. => rfl
  | .fs .. => rfl
  | .pf .. => rfl
  | .top => rfl
  | .ov .. => rfl
  | .sb .. => rfl
  | .pb .. => rfl
  | .pe .. => rfl
  | .clo .. => rfl
  | .agg cs => by simp only [ren, cl2]; exact rens_cl2 g cs
  | .tup cs => by simp only [ren, cl2]; exact rens_cl2 g cs
theorem rens_cl2 (g : Nat → Nat) : ∀ (cs : List SV), cl2s (rens g cs) = cl2s cs
  | [] => rfl
  | s :: r => by simp only [rens, cl2s, ren_cl2 g s, rens_cl2 g r]
end

/-- A call under its contract. -/
theorem call_core {P : Program} {f : FuncId} {args : List SV} {hpi hp' : List OB} {r : SV} (hsp : Spec P f args hpi r hp') {cx : Cx} {w : World} {hp : Nat → Option OB} (hm : Mem cx w hp) {ks lent : List Nat} (hnd : ks.Nodup)
    (hks : hpi.length = ks.length) (hkc : ∀ (j k : Nat), ks[j]? = some k → ∃ s, hp k = some (OB.cells s) ∧ hpi[j]? = some (OB.cells s) ∧ noRef s = true) {vals : List Value}
    (hv : RelVL ⟨fun j => (ks[j]?).bind cx.bl, (cx.minus lent).O⟩ w args vals) (hdisj : ∀ k ∈ ks, k ∉ lent) (hlive : ∀ k ∈ lent, ∃ ob, hp k = some ob ∧ ob ≠ .gone) {base : Nat} (hfree : ∀ i, i < hp'.length - ks.length → hp (base + i) = none) (hle : ks.length ≤ hp'.length)
    (hclean : lent = [] ∨ CleanP r hp') (keep : Nat → Prop) (hkeep : ∀ k, keep k → cx.bl k ≠ none) :
    Calls P f vals.toArray w fun e w' => ∃ v cx2, e = .returned v ∧ Ext cx w cx2 w' ∧ Fr keep cx w cx2 w' ∧ Mem cx2 w' (updHp hp (outHp (backN ks (len ks) base) 0 hp')) ∧ RelV cx2 w' (ren (backN ks (len ks) base) r) v := by
  have hkin : ∀ k ∈ ks, ∃ j, ks[j]? = some k := fun k hk => List.mem_iff_getElem?.1 hk
  -- the blocks that go in
  have hbk : ∀ (j k : Nat), ks[j]? = some k → ∃ b C s, cx.bl k = some (BL.at b C) ∧ cx.O b ∧ Holds cx w b C (OB.cells s) ∧ hpi[j]? = some (OB.cells s) ∧ noRef s = true ∧ hp k = some (OB.cells s) := by
    intro j k hj
    obtain ⟨s, h1, h2, h3⟩ := hkc j k hj
    rcases hm.live k _ h1 with ⟨b, C, h4, h5, h6⟩ | ⟨_, E, h4⟩
    · exact ⟨b, C, s, h4, h5, h6, h2, h3, h1⟩
    · cases h4
  have hmi : Mem ⟨fun j => (ks[j]?).bind cx.bl, (cx.minus lent).O⟩ w (nthB hpi) := by
    refine ⟨fun j ob hj => ?_, fun j j' ob1 ob2 b C1 C2 h1 h2 _ _ b1 b2 => ?_, fun j hj => ?_, fun b hb => hm.lt b hb.1⟩
    · rw [nthB_eq] at hj
      have hjl : j < ks.length := by rw [← hks]; exact (List.getElem?_eq_some_iff.1 hj).1
      obtain ⟨b, C, s, h4, h5, ⟨vs, T, h6, h7⟩, h8, h9, h10⟩ := hbk j _ (List.getElem?_eq_getElem hjl)
      rw [h8] at hj
      cases hj
      refine .inl ⟨b, C, by simp [List.getElem?_eq_getElem hjl, h4], ⟨h5, fun k hk C' hb => ?_⟩, vs, T, h6, ?_⟩
      · obtain ⟨ob', ho1, ho2⟩ := hlive k hk
        have : ks[j] = k := hm.inj _ k _ ob' b C C' h10 ho1 (by simp) ho2 h4 hb
        exact hdisj _ (List.getElem_mem hjl) (this ▸ hk)
      · have h11 := noRef_bare h7 h9
        exact h11.mono ⟨fun _ _ h => (by cases h), fun _ _ _ => rfl, fun _ h => .inl h.1⟩
    · have e1 : ∀ i ob, nthB hpi i = some ob → i < ks.length := fun i ob hi => by rw [nthB_eq] at hi; rw [← hks]; exact (List.getElem?_eq_some_iff.1 hi).1
      have l1 := e1 j ob1 h1
      have l2 := e1 j' ob2 h2
      obtain ⟨_, _, s1, _, _, _, _, _, g1⟩ := hbk j _ (List.getElem?_eq_getElem l1)
      obtain ⟨_, _, s2, _, _, _, _, _, g2⟩ := hbk j' _ (List.getElem?_eq_getElem l2)
      simp only [List.getElem?_eq_getElem l1, List.getElem?_eq_getElem l2, Option.bind_some] at b1 b2
      have := hm.inj _ _ _ _ b C1 C2 g1 g2 (by simp) (by simp) b1 b2
      exact (List.getElem_inj hnd).1 this
    · rw [nthB_eq] at hj
      have : ks.length ≤ j := by rw [← hks]; exact List.getElem?_eq_none_iff.1 hj
      simp [List.getElem?_eq_none this]
  refine (hsp _ w vals hmi hv).mono fun e w' ⟨cx', v, he, hr, hm', hf⟩ => ?_
  -- the caller's context behind the call
  have hn0 : len ks = ks.length := len_eq ks
  let N := hp'.length - ks.length
  let cx2 : Cx := ⟨fun j => if base ≤ j ∧ j < base + N then cx'.bl (ks.length + (j - base)) else cx.bl j, fun b => cx.O b ∨ cx'.O b⟩
  have hnew : ∀ j, base ≤ j ∧ j < base + N → hp j = none := fun j ⟨h1, h2⟩ => by
    have := hfree (j - base) (by omega)
    rwa [show base + (j - base) = j by omega] at this
  have hold : ∀ j, hp j ≠ none → ¬ (base ≤ j ∧ j < base + N) := fun j h1 h2 => h1 (hnew j h2)
  have hsize := hf.le
  have hOin : ∀ b, b < w.heap.size → cx'.O b → cx.O b := fun b hb h => by
    rcases hf.own b h with h | h
    · exact h.1
    · omega
  have hsame : ∀ b, b < w.heap.size → (∀ k ∈ ks, ∀ C, cx.bl k ≠ some (.at b C)) → w'.heap[b]? = w.heap[b]? := fun b hb hn => hf.same b hb fun j C hj => by
    cases hkj : ks[j]? with
    | none => simp [hkj] at hj
    | some k => simp [hkj] at hj; exact hn k (List.mem_of_getElem? hkj) C hj
  have hext : Ext cx w cx2 w' := by
    refine ⟨fun k x hk => ?_, fun b hb hO => hsame b hb fun k hk C hc => ?_, fun b hb => ?_⟩
    · have : hp k ≠ none := fun h => by rw [hm.dom k h] at hk; cases hk
      simp only [cx2, if_neg (hold k this)]; exact hk
    · obtain ⟨j, hj⟩ := hkin k hk
      obtain ⟨b', C', s, h4, h5, _⟩ := hbk j k hj
      rw [h4] at hc; cases hc
      exact hO h5
    · rcases hb with hb | hb
      · exact .inl hb
      · rcases Nat.lt_or_ge b w.heap.size with h | h
        · exact .inl (hOin b h hb)
        · exact .inr h
  have hgk : ∀ (j k : Nat), ks[j]? = some k → backN ks (len ks) base j = k := by
    intro j k hj
    have hjl : j < ks.length := (List.getElem?_eq_some_iff.1 hj).1
    have : Nat.blt j (len ks) = true := by simp [hn0, hjl]
    simp only [backN, this, nthN_eq, List.getD, hj]; rfl
  have hgn : ∀ i, backN ks (len ks) base (ks.length + i) = base + i := by
    intro i
    have : Nat.blt (ks.length + i) ks.length = false := by
      cases hb : Nat.blt (ks.length + i) ks.length with
      | false => rfl
      | true => exact absurd (show ks.length + i < ks.length by simpa using hb) (by omega)
    simp only [backN, hn0, this, Nat.add_sub_cancel_left]
  have hblk : ∀ (j k : Nat), ks[j]? = some k → cx'.bl j = cx.bl k := by
    intro j k hj
    obtain ⟨b, C, s, h4, h5, h6, h7, h8, h9⟩ := hbk j k hj
    rw [hf.keep j (isCells_kind ⟨s, h7⟩)]
    simp [hj]
  have hbl2 : ∀ j x, cx'.bl j = some x → cx2.bl (backN ks (len ks) base j) = some x := by
    intro j x hx
    rcases Nat.lt_or_ge j ks.length with hj | hj
    · have hjk := List.getElem?_eq_getElem hj
      rw [hgk j _ hjk]
      obtain ⟨b, C, s, h4, h5, h6, h7, h8, h9⟩ := hbk j _ hjk
      simp only [cx2, if_neg (hold _ (by rw [h9]; simp))]
      rw [← hblk j _ hjk]; exact hx
    · obtain ⟨i, rfl⟩ : ∃ i, j = ks.length + i := ⟨j - ks.length, by omega⟩
      rw [hgn i]
      have hiN : i < N := by
        have : nthB hp' (ks.length + i) ≠ none := fun h => by rw [hm'.dom _ h] at hx; cases hx
        rw [nthB_eq] at this
        have : ¬ hp'.length ≤ ks.length + i := fun h => this (List.getElem?_eq_none_iff.2 h)
        omega
      simp only [cx2]
      rw [if_pos (by omega), show ks.length + (base + i - base) = ks.length + i by omega]
      exact hx
  -- ownership: nothing that the result names is among the caller's own
  have hOeq : lent = [] → ∀ b, b < w'.heap.size → cx2.O b → cx'.O b := by
    intro hl b hb h
    rcases h with h | h
    · refine hf.old b (hm.lt b h) ⟨h, fun k hk => ?_⟩
      rw [hl] at hk; cases hk
    · exact h
  have hval : RelV cx2 w' (ren (backN ks (len ks) base) r) v := by
    rcases hclean with hl | hcl
    · exact hr.ren ⟨fun k x _ hx => hbl2 k x hx, hOeq hl⟩
    · have h1 : RelV ⟨cx'.bl, cx'.O⟩ w' r v := hr
      have h2 := (h1.ren (g := backN ks (len ks) base) (cx' := ⟨cx2.bl, cx'.O⟩) ⟨fun k x _ hx => hbl2 k x hx, fun b _ h => h⟩)
      have hc2 : cl2 (ren (backN ks (len ks) base) r) = true := by
        rw [ren_cl2]; exact hcl.1
      exact h2.clean hc2 fun _ _ h => h
  refine ⟨v, cx2, he, hext, ?_, ?_, hval⟩
  · refine ⟨hf.le, fun b hb hn => hsame b hb fun k _ C => hn k C, hext.own, fun b _ h => .inl h, fun j b C hj => ?_, fun j hj => ?_, hf.wk⟩
    · simp only [cx2] at hj
      split at hj
      · rename_i hr2
        rcases hf.blk _ b C hj with h | h
        · have : ks[ks.length + (j - base)]? = none := List.getElem?_eq_none (by omega)
          simp [this] at h
        · exact .inr h
      · exact .inl hj
    · have : hp j ≠ none := fun h => hkeep j hj (hm.dom j h)
      simp only [cx2, if_neg (hold j this)]
  · have hbl3 : ∀ i, i < hp'.length → cx2.bl (backN ks (len ks) base i) = cx'.bl i := by
      intro i hi
      rcases Nat.lt_or_ge i ks.length with hj | hj
      · have hjk := List.getElem?_eq_getElem hj
        rw [hgk i _ hjk]
        obtain ⟨b, C, s, h4, h5, h6, h7, h8, h9⟩ := hbk i _ hjk
        simp only [cx2, if_neg (hold _ (by rw [h9]; simp))]
        rw [← hblk i _ hjk]
      · obtain ⟨j, rfl⟩ : ∃ j, i = ks.length + j := ⟨i - ks.length, by omega⟩
        rw [hgn j]
        simp only [cx2]
        rw [if_pos (by omega), show ks.length + (base + j - base) = ks.length + j by omega]
    have hkey : ∀ i, i < hp'.length → (i < ks.length ∧ ∃ k, ks[i]? = some k ∧ backN ks (len ks) base i = k) ∨ (ks.length ≤ i ∧ backN ks (len ks) base i = base + (i - ks.length)) := by
      intro i hi
      rcases Nat.lt_or_ge i ks.length with hj | hj
      · exact .inl ⟨hj, _, List.getElem?_eq_getElem hj, hgk i _ (List.getElem?_eq_getElem hj)⟩
      · refine .inr ⟨hj, ?_⟩
        have := hgn (i - ks.length)
        rwa [show ks.length + (i - ks.length) = i by omega] at this
    have hgi : ∀ i j, i < hp'.length → j < hp'.length → backN ks (len ks) base i = backN ks (len ks) base j → i = j := by
      intro i j hi hj hij
      have cross : ∀ i j k, i < hp'.length → ks[i]? = some k → backN ks (len ks) base i = k → ks.length ≤ j → j < hp'.length → backN ks (len ks) base j = base + (j - ks.length) → backN ks (len ks) base i ≠ backN ks (len ks) base j := by
        intro i j k _ hk h1 h2 h3 h4 h5
        obtain ⟨_, _, s, _, _, _, _, _, h9⟩ := hbk i k hk
        rw [h1, h4] at h5
        rw [h5, hfree _ (by omega)] at h9
        cases h9
      rcases hkey i hi with ⟨h1, k1, h2, h3⟩ | ⟨h1, h2⟩ <;> rcases hkey j hj with ⟨g1, k2, g2, g3⟩ | ⟨g1, g2⟩
      · rw [h3, g3] at hij
        subst hij
        obtain ⟨p1, q1⟩ := List.getElem?_eq_some_iff.1 h2
        obtain ⟨p2, q2⟩ := List.getElem?_eq_some_iff.1 g2
        exact (List.getElem_inj hnd).1 (q1.trans q2.symm)
      · exact absurd hij (cross i j k1 hi h2 h3 g1 hj g2)
      · exact absurd hij.symm (cross j i k2 hj g2 g3 h1 hi h2)
      · rw [h2, g2] at hij; omega
    have hkeys : ((outHp (backN ks (len ks) base) 0 hp').map Prod.fst).Nodup := by
      rw [outHp_fst, List.Nodup, List.pairwise_map]
      refine (List.nodup_range' (s := 0) (n := hp'.length)).imp_of_mem fun {i j} h1 h2 hne heq => hne ?_
      simp only [List.mem_range'_1] at h1 h2
      exact hgi i j (by omega) (by omega) heq
    obtain ⟨hget, hnot⟩ := updHp_get _ hp hkeys
    have hcase : ∀ k ob, updHp hp (outHp (backN ks (len ks) base) 0 hp') k = some ob → (∃ i x, i < hp'.length ∧ hp'[i]? = some x ∧ k = backN ks (len ks) base i ∧ ob = renOB (backN ks (len ks) base) x) ∨
        (hp k = some ob ∧ ∀ i, i < hp'.length → k ≠ backN ks (len ks) base i) := by
      intro k ob hk
      by_cases hm2 : k ∈ (outHp (backN ks (len ks) base) 0 hp').map Prod.fst
      · obtain ⟨⟨k', ob'⟩, h1, h2⟩ := List.mem_map.1 hm2
        simp only at h2
        subst h2
        rw [hget _ _ h1] at hk
        cases hk
        obtain ⟨i, x, h3, h4, h5⟩ := outHp_inv _ _ _ _ _ h1
        exact .inl ⟨i, x, (List.getElem?_eq_some_iff.1 h3).1, h3, by simpa using h4, h5⟩
      · rw [hnot k hm2] at hk
        refine .inr ⟨hk, fun i hi he => hm2 ?_⟩
        have := outHp_mem (backN ks (len ks) base) hp' 0 i _ (List.getElem?_eq_getElem hi)
        rw [Nat.zero_add, ← he] at this
        exact List.mem_map.2 ⟨_, this, rfl⟩
    have hnk : ∀ k, (∀ i, i < hp'.length → k ≠ backN ks (len ks) base i) → k ∉ ks ∧ ¬ (base ≤ k ∧ k < base + N) := by
      intro k hk
      refine ⟨fun hmem => ?_, fun hr2 => ?_⟩
      · obtain ⟨j, hj⟩ := hkin k hmem
        have hjl : j < ks.length := (List.getElem?_eq_some_iff.1 hj).1
        exact hk j (by omega) (hgk j k hj).symm
      · have := hgn (k - base)
        exact hk (ks.length + (k - base)) (by omega) (by rw [this]; omega)
    have hOb : lent = [] → Ext ⟨fun _ => none, cx'.O⟩ w' ⟨fun _ => none, cx2.O⟩ w' := fun hl => ⟨fun _ _ h => (by cases h), fun _ _ _ => rfl, fun b h => by
      rcases Nat.lt_or_ge b w'.heap.size with hb | hb
      · exact .inl (hOeq hl b hb h)
      · exact .inr hb⟩
    refine ⟨fun k ob hk => ?_, fun j j' ob1 ob2 b C1 C2 h1 h2 n1 n2 b1 b2 => ?_, fun j hj => ?_, fun b hb => ?_⟩
    · rcases hcase k ob hk with ⟨i, x, hi, hx, rfl, rfl⟩ | ⟨hk0, hne⟩
      · have hl := hm'.live i x (by rw [nthB_eq]; exact hx)
        cases x with
        | gone => trivial
        | cells s =>
          rcases hl with ⟨b, C, h1, h2, vs, T, h3, h4⟩ | ⟨_, E, h2⟩
          · refine .inl ⟨b, C, by rw [hbl3 i hi]; exact h1, .inr h2, vs, T, h3, ?_⟩
            rcases hclean with hl0 | hcl
            · exact h4.ren ⟨fun k x _ hx => hbl2 k x hx, hOeq hl0⟩
            · have hc : cl s = true := hcl.2 _ (List.mem_of_getElem? hx)
              have h5 := (h4.ren (g := backN ks (len ks) base) (cx' := ⟨cx2.bl, cx'.O⟩) ⟨fun k x _ hx => hbl2 k x hx, fun b _ h => h⟩)
              exact h5.clean (by rw [ren_cl2]; exact cl_cl2 hc) fun _ _ h => h
          · cases h2
        | arr E rows =>
          rcases hl with ⟨b, C, h1, h2, vs, T, h3, h4, h5, h6⟩ | ⟨h1, E', h2⟩
          · refine .inl ⟨b, C, by rw [hbl3 i hi]; exact h1, .inr h2, vs, T, h3, h4, h5, fun j s hs => ?_⟩
            rcases hclean with hl0 | hcl
            · exact (h6 j s hs).mono (hOb hl0)
            · have hc : ∀ s ∈ rows, cl s = true := hcl.2 _ (List.mem_of_getElem? hx)
              exact (h6 j s hs).clean (cl_cl2 (hc s (List.mem_of_getElem? hs))) fun _ _ h => (by cases h)
          · exact .inr ⟨by rw [hbl3 i hi]; exact h1, E', h2⟩
      · obtain ⟨hnks, hnr⟩ := hnk k hne
        have hl := hm.live k ob hk0
        have hsm : ∀ b C, cx.bl k = some (.at b C) → ob ≠ .gone → w'.heap[b]? = w.heap[b]? := by
          intro b C hb hog
          refine hsame b (hm.lt b (live_at hm hk0 hb hog).1) fun k' hk' C' hb' => ?_
          obtain ⟨j, hj⟩ := hkin k' hk'
          obtain ⟨_, _, s, _, _, _, _, _, h9⟩ := hbk j k' hj
          have := hm.inj k k' _ _ b C C' hk0 h9 hog (by simp) hb hb'
          exact hnks (this ▸ hk')
        cases ob with
        | gone => trivial
        | cells s =>
          rcases hl with ⟨b, C, h1, h2, h3⟩ | ⟨_, E, h2⟩
          · exact .inl ⟨b, C, hext.bl _ _ h1, .inl h2, h3.mono hext (hsm b C h1 (by simp))⟩
          · cases h2
        | arr E rows =>
          rcases hl with ⟨b, C, h1, h2, h3⟩ | ⟨h1, E', h2⟩
          · exact .inl ⟨b, C, hext.bl _ _ h1, .inl h2, h3.mono hext (hsm b C h1 (by simp))⟩
          · exact .inr ⟨hext.bl _ _ h1, E', h2⟩
    · have renG : ∀ x : OB, renOB (backN ks (len ks) base) x ≠ .gone → x ≠ .gone := fun x h e => h (by rw [e]; rfl)
      have cross : ∀ k ob i x C C', hp k = some ob → ob ≠ .gone → (∀ i, i < hp'.length → k ≠ backN ks (len ks) base i) → i < hp'.length → hp'[i]? = some x → cx2.bl k = some (.at b C) → cx2.bl (backN ks (len ks) base i) = some (.at b C') → False := by
        intro k ob i x C C' hk hog hne hi hx b1 b2
        obtain ⟨hnks, hnr⟩ := hnk k hne
        simp only [cx2, if_neg hnr] at b1
        rw [hbl3 i hi] at b2
        have hblt := hm.lt b (live_at hm hk b1 hog).1
        rcases Nat.lt_or_ge i ks.length with hj | hj
        · have hjk := List.getElem?_eq_getElem hj
          obtain ⟨_, _, s, _, _, _, _, _, h9⟩ := hbk i _ hjk
          rw [hblk i _ hjk] at b2
          have := hm.inj k _ _ _ b C C' hk h9 hog (by simp) b1 b2
          exact hnks (this ▸ List.getElem_mem hj)
        · rcases hf.blk i b C' b2 with h | h
          · simp [List.getElem?_eq_none hj] at h
          · omega
      rcases hcase j ob1 h1 with ⟨i, x, hi, hx, rfl, rfl⟩ | ⟨hk1, hne1⟩ <;> rcases hcase j' ob2 h2 with ⟨i', x', hi', hx', rfl, rfl⟩ | ⟨hk2, hne2⟩
      · rw [hbl3 i hi] at b1
        rw [hbl3 i' hi'] at b2
        have := hm'.inj i i' x x' b C1 C2 (by rw [nthB_eq]; exact hx) (by rw [nthB_eq]; exact hx') (renG x n1) (renG x' n2) b1 b2
        rw [this]
      · exact (cross j' ob2 i x C2 C1 hk2 n2 hne2 hi hx b2 b1).elim
      · exact (cross j ob1 i' x' C1 C2 hk1 n1 hne1 hi' hx' b1 b2).elim
      · obtain ⟨_, hnr1⟩ := hnk j hne1
        obtain ⟨_, hnr2⟩ := hnk j' hne2
        simp only [cx2, if_neg hnr1] at b1
        simp only [cx2, if_neg hnr2] at b2
        exact hm.inj j j' ob1 ob2 b C1 C2 hk1 hk2 n1 n2 b1 b2
    · have hnm : j ∉ (outHp (backN ks (len ks) base) 0 hp').map Prod.fst := fun hmem => by
        obtain ⟨⟨k', ob'⟩, h1, h2⟩ := List.mem_map.1 hmem
        simp only at h2
        subst h2
        rw [hget _ _ h1] at hj
        cases hj
      rw [hnot j hnm] at hj
      have hne : ∀ i, i < hp'.length → j ≠ backN ks (len ks) base i := fun i hi he => hnm (by
        have := outHp_mem (backN ks (len ks) base) hp' 0 i _ (List.getElem?_eq_getElem hi)
        rw [Nat.zero_add, ← he] at this
        exact List.mem_map.2 ⟨_, this, rfl⟩)
      simp only [cx2, if_neg (hnk j hne).2]
      exact hm.dom j hj
    · rcases hb with hb | hb
      · exact Nat.lt_of_lt_of_le (hm.lt b hb) hf.le
      · exact hm'.lt b hb
end Go.Fw
