/- The executor is sound: operation by operation. -/
import Derived.Test.YtlkhjalnnciocaaGreatFm1
import Derived.ChangeKeysEq
import Derived.Lib.SliceRun
import Derived.Great.BuildSlice
import Derived.Laws.MakeOwn
import Derived.Laws.AppendOwn

namespace Go.Fw
def TTok (P : Program) (TT : Nat → TI) : Prop := ∀ t, TIok P t (TT t)

section
variable {P : Program} {TT : Nat → TI} {n : Sz} {e : List (Nat × SV)} {h : List OB} {K : Rec → Prop}
variable {dst : Option Nat} {ty : TypeId} {pos : String} {after : Array Edge} {guard : Option (Nat × Bool)}

abbrev Goal (P : Program) (o : Oper) (n : Sz) (e : List (Nat × SV)) (h : List OB) (K : Rec → Prop) : Prop := ∃ rc, OpD P o n (lk e) (nthB h) rc ∧ K rc

theorem s_move {x : Operand} (hn : inFrame n dst = true) (hx : xOp P TT n ⟨dst, .move x, ty, pos, after, guard⟩ e h K) : Goal P ⟨dst, .move x, ty, pos, after, guard⟩ n e h K := by
  obtain ⟨s, h1, hk⟩ := opd_sound hx
  refine ⟨_, opD_plain s hn fun cx w a hr => ⟨_, rfl, h1.rel hr fun t ht => mem_slotsOf (by simp [Op.operands, ht])⟩, hk⟩
theorem s_assign {x : Operand} (hn : inFrame n dst = true) (hx : xOp P TT n ⟨dst, .assign x, ty, pos, after, guard⟩ e h K) : Goal P ⟨dst, .assign x, ty, pos, after, guard⟩ n e h K := by
  obtain ⟨s, h1, hk⟩ := opd_sound hx
  refine ⟨_, opD_plain s hn fun cx w a hr => ⟨_, rfl, h1.rel hr fun t ht => mem_slotsOf (by simp [Op.operands, ht])⟩, hk⟩

theorem relV_v {cx w x v} (h : RelV cx w (.v x) v) : v = x := by
  have h : RelC cx w (.v x) [v] := h
  cases h; rfl

theorem s_pick {c x y : Operand} (hn : inFrame n dst = true) (hx : xOp P TT n ⟨dst, .pick c x y, ty, pos, after, guard⟩ e h K) : Goal P ⟨dst, .pick c x y, ty, pos, after, guard⟩ n e h K := by
  obtain ⟨sc, h1, hk⟩ := opd_sound hx
  split at hk
  · rename_i b
    obtain ⟨sa, h2, hk⟩ := opd_sound hk
    obtain ⟨sb, h3, hk⟩ := opd_sound hk
    cases b
    · refine ⟨_, opD_plain sb hn fun cx w a hr => ?_, hk.1⟩
      have e1 := relV_v (h1.rel hr fun t ht => mem_slotsOf (by simp [Op.operands, ht]))
      refine ⟨a.eval y, ?_, h3.rel hr fun t ht => mem_slotsOf (by simp [Op.operands, ht])⟩
      simp [execOp, e1, asBool]
    · refine ⟨_, opD_plain sa hn fun cx w a hr => ?_, hk.1⟩
      have e1 := relV_v (h1.rel hr fun t ht => mem_slotsOf (by simp [Op.operands, ht]))
      refine ⟨a.eval x, ?_, h2.rel hr fun t ht => mem_slotsOf (by simp [Op.operands, ht])⟩
      simp [execOp, e1, asBool]
  · exact hk.elim

theorem nthB_len (h : List OB) : nthB h (len h) = none := by rw [nthB_eq, len_eq]; simp

theorem s_alloc {t : TypeId} (hT : TTok P TT) (hn : inFrame n dst = true) (hx : xOp P TT n ⟨dst, .alloc t, ty, pos, after, guard⟩ e h K) : Goal P ⟨dst, .alloc t, ty, pos, after, guard⟩ n e h K := by
  simp only [xOp] at hx
  have ht := hT t
  split at hx
  · exact hx.elim
  · rename_i hne
    generalize hti : TT t = ti at *
    obtain ⟨⟨by_, hi⟩, hz⟩ := ht.info (fun e => hne e)
    obtain ⟨i, hi1, _, _, hi4⟩ := hi.mk
    refine ⟨_, opD_new (len h) (.cells ti.zero) (.pb (len h) []) hn (nthB_len h) fun cx w a hr => ?_, hx⟩
    refine ⟨.pointer (some ⟨w.heap.size, 0, none⟩), .cells (toVal ti.zero).cells t, 0, ?_, fun cx' he => ?_, fun cx' he hb => .pb hb⟩
    · simp [execOp, Instr.alloc, run_zeroValue' hi1 hi4, newVar, newRow]
    · obtain ⟨us, hu, hr⟩ := (okz_val (cx := cx') (w := w.alloc (.cells (toVal ti.zero).cells t)) hz).cells (by intro e; rw [e] at hz; simp [okz] at hz) (by intro l e; rw [e] at hz; simp [okz] at hz)
      exact ⟨us, t, by rw [heap_alloc_new, hu], hr⟩

theorem s_box {t : TypeId} {x : Operand} (hn : inFrame n dst = true) (hx : xOp P TT n ⟨dst, .box t x, ty, pos, after, guard⟩ e h K) : Goal P ⟨dst, .box t x, ty, pos, after, guard⟩ n e h K := by
  obtain ⟨s, h1, hk⟩ := opd_sound hx
  split at hk
  · rename_i hs
    refine ⟨_, opD_new (len h) (.cells s) (.pb (len h) []) hn (nthB_len h) fun cx w a hr => ?_, hk⟩
    have hv := h1.rel hr fun t ht => mem_slotsOf (by simp [Op.operands, ht])
    refine ⟨.pointer (some ⟨w.heap.size, 0, none⟩), .cells (a.eval x).cells t, 0, ?_, fun cx' he => ?_, fun cx' he hb => .pb hb⟩
    · simp [execOp, Instr.box, newVar, newRow]
    · obtain ⟨us, hu, hr⟩ := (hv.mono he).cells (by intro e; subst e; simp [notTop] at hs) (by intro l e; subst e; simp [notTop] at hs)
      exact ⟨us, t, by rw [heap_alloc_new, hu], hr⟩
  · exact hk.elim

theorem block_cells {w : World} {b : Nat} {vs : List Value} {T : TypeId} {fz : Nat × Nat} (hb : w.heap[b]? = some (.cells vs.toArray T fz)) {off : Nat} {m : Nat} (j : Nat) (x : Value)
    (hj : ((vs.drop off).take m)[j]? = some x) : w.cell? ⟨b, off + j, none⟩ = some x := by
  rw [cell_of hb]
  simp only [List.getElem?_take, List.getElem?_drop] at hj
  split at hj
  · simpa using hj
  · cases hj

theorem bare_up {cx : Cx} {w s vs} (h : RelC ⟨fun _ => none, cx.O⟩ w s vs) : RelC cx w s vs :=
  h.mono ⟨fun _ _ h => (by cases h), fun _ _ _ => rfl, fun _ h => .inl h⟩

theorem s_load {t : TypeId} {x : Operand} (hT : TTok P TT) (hn : inFrame n dst = true) (hx : xOp P TT n ⟨dst, .load t x, ty, pos, after, guard⟩ e h K) : Goal P ⟨dst, .load t x, ty, pos, after, guard⟩ n e h K := by
  obtain ⟨s, h1, hk⟩ := opd_sound hx
  have run : ∀ (cx : Cx) (w : World) (a : Act) (y : SV) (us : List Value) (b off : Nat), ofType (TT t) y = true → a.eval x = .pointer (some ⟨b, off, none⟩) → RelC cx w y us →
      (∀ (j : Nat) u, us[j]? = some u → w.cell? ⟨b, off + j, none⟩ = some u) → ∃ v, (execOp a.eval ⟨dst, .load t x, ty, pos, after, guard⟩).run P w = .ok (.value v) w ∧ RelV cx w y v := by
    intro cx w a y us b off hy he hr hc
    obtain ⟨v, h2, h3⟩ := run_load_rel (hT t) hy hr hc
    exact ⟨v, by simp [execOp, Instr.loadAt, Instr.sureAddr, he, h2], h3⟩
  unfold execLoad at hk
  split at hk
  · rename_i k p
    split at hk
    · rename_i s' hs
      obtain ⟨y, hk, hle, hy⟩ := follow_sound _ _ _ hk
      unfold okT at hk
      split at hk
      · rename_i hty
        refine ⟨_, opD_look k (.cells s') y hn hs fun cx w a hr hl => ?_, hk⟩
        have hv : RelC cx w (.pb k p) [a.eval x] := h1.rel hr fun t ht => mem_slotsOf (by simp [Op.operands, ht])
        generalize hv0 : a.eval x = v0 at hv
        cases hv with
        | pb hb =>
          rcases hl with ⟨b', C', hb', _, vs, T, hh, hrc⟩ | ⟨hb', _⟩
          · rw [hb] at hb'; cases hb'
            exact run cx w a y _ _ _ hty hv0 (hy cx w vs hrc) (fun j u hu => block_cells hh j u hu)
          · rw [hb] at hb'; cases hb'
      · exact hk.elim
    · exact hk.elim
  · rename_i E k i p
    split at hk
    · rename_i E' rows hs
      unfold okT at hk
      split at hk
      · rename_i hE
        have hE := Nat.eq_of_beq_eq_true hE
        subst hE
        obtain ⟨s', hs', hk⟩ := elem_iff.1 hk
        obtain ⟨y, hk, hle, hy⟩ := follow_sound _ _ _ hk
        split at hk
        · rename_i hty
          refine ⟨_, opD_look k (.arr _ E rows) y hn hs fun cx w a hr hl => ?_, hk⟩
          have hv : RelC cx w (.pe E k i p) [a.eval x] := h1.rel hr fun t ht => mem_slotsOf (by simp [Op.operands, ht])
          generalize hv0 : a.eval x = v0 at hv
          cases hv with
          | pe hb =>
            rcases hl with ⟨b', C', hb', _, vs, T, hh, hlen, hC, hrows⟩ | ⟨hb', E', he⟩
            · rw [hb] at hb'; cases hb'
              have hrc := hy cx w _ (bare_up (hrows i s' hs'))
              have hw := (hrows i s' hs').width
              rw [List.length_take] at hw
              rw [List.drop_take, List.take_take, List.drop_drop, Nat.min_eq_left (by omega)] at hrc
              exact run cx w a y _ _ _ hty hv0 hrc (fun j u hu => block_cells hh j u hu)
            · rw [hb] at hb'; cases hb'
        · exact hk.elim
      · exact hk.elim
    · exact hk.elim
  · rename_i E rows i p
    obtain ⟨s', hs', hk⟩ := elem_iff.1 hk
    obtain ⟨y, hk, hle, hy⟩ := follow_sound _ _ _ hk
    unfold okT at hk
    split at hk
    · rename_i hty
      refine ⟨_, opD_plain y hn fun cx w a hr => ?_, hk⟩
      have hv : RelC cx w (.pf E rows i p) [a.eval x] := h1.rel hr fun t ht => mem_slotsOf (by simp [Op.operands, ht])
      generalize hv0 : a.eval x = v0 at hv
      cases hv with
      | pf hf =>
        cases hf with
        | fs0 => simp at hs'
        | fs f hb hO hc ht hrows hl hcell =>
          have hlt : i < rows.length := (List.getElem?_eq_some_iff.1 hs').1
          have hrc := hy cx w _ (bare_up (hrows i s' hs'))
          refine run cx w a y _ _ _ hty hv0 hrc (fun j u hu => ?_)
          simp only [List.getElem?_take, List.getElem?_drop] at hu
          split at hu
          · rw [cell_of hb]
            have := hcell i hlt _ u hu
            rw [← this]; congr 1; omega
          · cases hu
    · exact hk.elim
  · exact hk.elim

theorem s_nilCheck {x : Operand} (hn : inFrame n dst = true) (hx : xOp P TT n ⟨dst, .nilCheck x, ty, pos, after, guard⟩ e h K) : Goal P ⟨dst, .nilCheck x, ty, pos, after, guard⟩ n e h K := by
  obtain ⟨s, h1, hk⟩ := opd_sound hx
  have run : ∀ (cx : Cx) (w : World) (a : Act), RelV cx w s (a.eval x) → ((∃ b, a.eval x = .pointer (some b)) ∨ ∃ f c, a.eval x = .func (.func f) #[] c) →
      ∃ v, (execOp a.eval ⟨dst, .nilCheck x, ty, pos, after, guard⟩).run P w = .ok (.value v) w ∧ RelV cx w s v := by
    intro cx w a hr hb
    refine ⟨_, ?_, hr⟩
    rcases hb with ⟨b, hb⟩ | ⟨f, c, hb⟩ <;> simp [execOp, hb]
  split at hk
  · refine ⟨_, opD_plain _ hn fun cx w a hr => ?_, hk⟩
    have hv := h1.rel hr fun t ht => mem_slotsOf (by simp [Op.operands, ht])
    refine run cx w a hv (.inl ?_)
    have hv : RelC cx w _ [a.eval x] := hv
    generalize a.eval x = v0 at hv
    cases hv; exact ⟨_, rfl⟩
  · refine ⟨_, opD_plain _ hn fun cx w a hr => ?_, hk⟩
    have hv := h1.rel hr fun t ht => mem_slotsOf (by simp [Op.operands, ht])
    refine run cx w a hv (.inl ?_)
    have hv : RelC cx w _ [a.eval x] := hv
    generalize a.eval x = v0 at hv
    cases hv; exact ⟨_, rfl⟩
  · refine ⟨_, opD_plain _ hn fun cx w a hr => ?_, hk⟩
    have hv := h1.rel hr fun t ht => mem_slotsOf (by simp [Op.operands, ht])
    refine run cx w a hv (.inl ?_)
    have hv : RelC cx w _ [a.eval x] := hv
    generalize a.eval x = v0 at hv
    cases hv; exact ⟨_, rfl⟩
  · refine ⟨_, opD_plain _ hn fun cx w a hr => ?_, hk⟩
    have hv := h1.rel hr fun t ht => mem_slotsOf (by simp [Op.operands, ht])
    refine run cx w a hv (.inr ?_)
    have hv : RelC cx w _ [a.eval x] := hv
    generalize a.eval x = v0 at hv
    cases hv; exact ⟨_, _, rfl⟩
  · exact hk.elim
end
end Go.Fw

/- The executor is sound: an owned slice becomes a shared one. -/
namespace Go.Fw

theorem okT_ofN {b : Bool} {K : Prop} (h : okT b K) : b = true ∧ K := by
  cases b
  · exact h.elim
  · exact ⟨rfl, h⟩
def Cx.minus (cx : Cx) (ks : List Nat) : Cx := ⟨cx.bl, fun b => cx.O b ∧ ∀ k ∈ ks, ∀ C, cx.bl k ≠ some (.at b C)⟩
theorem ext_minus (cx : Cx) (w : World) (ks : List Nat) : Ext cx w (cx.minus ks) w := ⟨fun _ _ h => h, fun _ _ _ => rfl, fun _ h => .inl h.1⟩

theorem minus_fs {tg : Tg} {cx : Cx} {w : World} {ks : List Nat} {E : Nat} {rows : List SV} {b off cap : Nat} {vs : List Value} {T : TypeId} {k C : Nat} (hh : w.heap[b]? = some (.cells vs.toArray T (0, 0))) (hk : k ∈ ks) (hb : cx.bl k = some (.at b C))
    (hc : rows.length ≤ cap) (hfit : off + rows.length * E ≤ vs.length) (hr : ∀ i s, rows[i]? = some s → RelC cx.bare w s ((vs.drop (off + i * E)).take E)) (htg : tg.ok (some ⟨b, off, none⟩) cap := by exact Tg.ok_no) :
    RelC (cx.minus ks) w (.fs tg E rows) [.slice (some ⟨b, off, none⟩) rows.length cap] := by
  refine .fs (fun i => (vs.drop (off + i * E)).take E) hh (fun h => h.2 k hk C hb) hc htg (fun i s hs => (hr i s hs).mono (ext_minus cx w ks).bare) (fun i hi => ?_) (fun i hi j x hj => ?_)
  · have hiE : (i + 1) * E ≤ rows.length * E := Nat.mul_le_mul_right E hi
    rw [Nat.add_mul, Nat.one_mul] at hiE
    simp; omega
  · simp only [List.getElem?_take, List.getElem?_drop] at hj
    split at hj
    · simpa using hj
    · cases hj


theorem goneL_get : ∀ (ks : List Nat) (hp : Nat → Option OB) (k : Nat), updHp hp (goneL ks) k = if k ∈ ks then some .gone else hp k
  | [], hp, k => by simp [goneL, updHp]
  | j :: r, hp, k => by
    simp only [goneL, updHp]
    rw [goneL_get r]
    by_cases h : k ∈ r
    · simp [h]
    · by_cases h2 : k = j
      · simp [h2]
      · simp [h, h2]

def Cold (n0 : Nat) (hp : Nat → Option OB) (ks : List Nat) : Prop := ∀ k ∈ ks, n0 ≤ k ∧ ∃ ob, hp k = some ob ∧ ob ≠ .gone

theorem mem_minus {cx : Cx} {w : World} {hp : Nat → Option OB} (hm : Mem cx w hp) {ks : List Nat} (hk : ∀ k ∈ ks, ∃ ob, hp k = some ob ∧ ob ≠ .gone) :
    Mem (cx.minus ks) w (updHp hp (goneL ks)) := by
  have old : ∀ j ob, updHp hp (goneL ks) j = some ob → ob ≠ .gone → j ∉ ks ∧ hp j = some ob := by
    intro j ob hj hg
    rw [goneL_get] at hj
    split at hj
    · cases hj; exact absurd rfl hg
    · exact ⟨by assumption, hj⟩
  have away : ∀ j ob b C, j ∉ ks → hp j = some ob → ob ≠ .gone → cx.bl j = some (.at b C) → ∀ k ∈ ks, ∀ C', cx.bl k ≠ some (.at b C') := by
    intro j ob b C hj hob hg hb k hkk C' hb'
    obtain ⟨ob2, hk1, hg1⟩ := hk k hkk
    have := hm.inj j k _ _ b C C' hob hk1 hg hg1 hb hb'
    exact hj (this ▸ hkk)
  refine ⟨fun j ob hj => ?_, fun j j' o1 o2 b C C' h1 h2 g1 g2 b1 b2 => ?_, fun j hj => ?_, fun b hb => hm.lt b hb.1⟩
  · by_cases hg : ob = .gone
    · subst hg; trivial
    · obtain ⟨h1, h2⟩ := old j ob hj hg
      have hl := hm.live j ob h2
      cases ob with
      | gone => trivial
      | cells s =>
        rcases hl with ⟨b, C, h3, h4, h5⟩ | ⟨_, E, h3⟩
        · exact .inl ⟨b, C, h3, ⟨h4, away j _ b C h1 h2 (by simp) h3⟩, h5.mono (ext_minus cx w ks) rfl⟩
        · cases h3
      | arr x E rows =>
        rcases hl with ⟨b, C, h3, h4, h5⟩ | ⟨h3, h4⟩
        · exact .inl ⟨b, C, h3, ⟨h4, away j _ b C h1 h2 (by simp) h3⟩, h5.mono (ext_minus cx w ks) rfl⟩
        · exact .inr ⟨h3, h4⟩
  · exact hm.inj j j' o1 o2 b C C' (old j o1 h1 g1).2 (old j' o2 h2 g2).2 g1 g2 b1 b2
  · rw [goneL_get] at hj
    split at hj
    · cases hj
    · exact hm.dom j hj

theorem SatF.minus {B : Base} {cx sl hp a w} (h : SatF B cx sl hp a w) {ks : List Nat} (hk : Cold B.n.n0 hp ks) : SatF B (cx.minus ks) sl (updHp hp (goneL ks)) a w := by
  refine ⟨h.df, h.sz, fun t s ht => let ⟨v, h1, h2⟩ := h.sl t s ht; ⟨v, h1, h2.mono (ext_minus cx w ks)⟩, mem_minus h.mem fun k hkk => (hk k hkk).2, ?_⟩
  refine ⟨h.fr.le, h.fr.same, fun b hb => h.fr.own b hb.1, fun b hb hO => ?_, h.fr.blk, h.fr.keep, h.fr.wk⟩
  rcases h.fr.old b hb hO with h0 | h0
  · by_cases hex : ∃ k ∈ ks, ∃ C, cx.bl k = some (.at b C)
    · obtain ⟨k, hkk, C, hc⟩ := hex
      rcases h.fr.blk k b C hc with ⟨k', h1, h2⟩ | h1
      · rcases h1 with rfl | h1
        · rw [B.dm k' (hk k' hkk).1] at h2; cases h2
        · exact .inr ⟨k', C, h1, h2⟩
      · omega
    · exact .inl ⟨h0, fun k hkk C hc => hex ⟨k, hkk, C, hc⟩⟩
  · exact .inr h0

theorem tg_cut {x : Option Nat} {C off : Nat} (h : ∀ c, x = some c → C = c) : ∀ c, x.map (· - off) = some c → C - off = c := by
  intro c hc
  cases x with
  | none => cases hc
  | some y =>
    have := h y rfl
    simp at hc; omega

theorem frzOne_sound {h : List OB} {n0 : Nat} {s : SV} {K : SV → List Nat → Prop} (hk : frzOne h n0 s K) : ∃ s' ks, K s' ks ∧ Cold n0 (nthB h) ks ∧ wd s' = wd s ∧ ((∃ t E rows, s' = .fs t E rows) ∨ s' = s) ∧
    ∀ (cx : Cx) (w : World) (vs : List Value) (hp' : Nat → Option OB) (kk : List Nat), (∀ k ∈ ks, hp' k = nthB h k) → (∀ k ∈ ks, k ∈ kk) → Mem cx w hp' → RelC cx w s vs → RelC (cx.minus kk) w s' vs := by
  unfold frzOne at hk
  simp only [nm_eq] at hk
  split at hk
  · rename_i E k off m
    split at hk
    · rename_i x E' rows hn hs
      obtain ⟨hE, hk1⟩ := okT_ofN hk
      have hE := Nat.eq_of_beq_eq_true hE
      subst hE
      obtain ⟨hle, hk2⟩ := need_iff.1 hk1
      clear hk hk1
      refine ⟨_, _, hk2, fun k' hk' => ?_, rfl, .inl ⟨_, _, _, rfl⟩, fun cx w vs hp' kk hh hkk hm hr => ?_⟩
      · rw [List.mem_singleton.1 hk']
        exact ⟨by simpa using hn, _, hs, by simp⟩
      · have hl := hm.live k _ (by rw [hh k (by simp), hs])
        have hlen : ((rows.drop off).take m).length = m := by simp; omega
        cases hr with
        | ov hb hC =>
          rename_i b C
          rcases hl with ⟨b', C', hb', _, vs, T, hh', hlen', hA, hrows⟩ | ⟨hb', _⟩
          · rw [hb] at hb'; cases hb'
            have hCE : (off + m) * E ≤ C * E := Nat.mul_le_mul_right E hC
            rw [Nat.add_mul] at hCE
            have hmC : m ≤ C - off := by omega
            have := minus_fs (ks := kk) (tg := ⟨x.map (· - off), false⟩) (rows := (rows.drop off).take m) (off := off * E) (cap := C - off) hh' (hkk k (by simp)) hb (by rw [hlen]; exact hmC) (by rw [hlen, hlen']; omega) (fun i s hs => by
              simp only [List.getElem?_take, List.getElem?_drop] at hs
              split at hs
              · rw [← Nat.add_mul]; exact hrows (off + i) s hs
              · cases hs) ⟨(fun h => by cases h), tg_cut hA.cap⟩
            rw [hlen] at this
            exact this
          · rw [hb] at hb'; cases hb'
        | ov0 hb =>
          simp only [List.take_zero]
          refine .fs0 ⟨(fun h => by cases h), fun c hc => ?_⟩
          rcases hl with ⟨b', C', hb', _⟩ | ⟨_, E', he⟩
          · rw [hb] at hb'; cases hb'
          · cases x with
            | none => cases hc
            | some y =>
              simp only [x0, OB.arr.injEq, Option.some.injEq] at he
              simp at hc
              omega
        | ovz hb =>
          simp only [List.take_zero]
          refine .fs0 ⟨(fun h => by cases h), fun c hc => ?_⟩
          rcases hl with ⟨b', C', hb', _, vs, T, hh', hlen', hA, hrows⟩ | ⟨hb', _⟩
          · rw [hb] at hb'; cases hb'
            have := tg_cut hA.cap c hc
            omega
          · rw [hb] at hb'; cases hb'
    · exact hk.elim
  · rename_i k off m
    split at hk
    · rename_i q l hn hs
      obtain ⟨hle, hk2⟩ := need_iff.1 hk
      clear hk
      refine ⟨_, _, hk2, fun k' hk' => ?_, rfl, .inl ⟨_, _, _, rfl⟩, fun cx w vs hp' kk hh hkk hm hr => ?_⟩
      · rw [List.mem_singleton.1 hk']
        exact ⟨by simpa using hn, _, hs, by simp⟩
      · have hl := hm.live k _ (by rw [hh k (by simp), hs])
        cases hr with
        | sb hb hcap =>
          rename_i b C cap
          rcases hl with ⟨b', C', hb', _, vs, T, hh', hrel⟩ | ⟨_, E, he⟩
          · rw [hb] at hb'; cases hb'
            cases hrel with
            | ba hlen =>
              have hl1 : (((bytesRows l).drop off).take m).length = m := by simp [bytesRows]; omega
              have := minus_fs (ks := kk) (tg := .no) (E := 1) (rows := ((bytesRows l).drop off).take m) (off := offs [] + off) (cap := cap) hh' (hkk k (by simp)) hb (by rw [hl1]; exact hcap) (by rw [hl1]; simp [offs]; omega) (fun i s hs => by
                simp only [List.getElem?_take, List.getElem?_drop, bytesRows, List.getElem?_map] at hs
                split at hs
                · rename_i him
                  obtain ⟨x, hx, rfl⟩ := Option.map_eq_some_iff.1 hs
                  have e : ((l.map fun x => Value.int .u8 x).drop (offs [] + off + i * 1)).take 1 = [.int .u8 x] := by
                    have h1 : (l.map fun x => Value.int .u8 x)[off + i]? = some (.int .u8 x) := by rw [List.getElem?_map, hx]; rfl
                    obtain ⟨h2, h3⟩ := List.getElem?_eq_some_iff.1 h1
                    rw [show offs [] + off + i * 1 = off + i by simp [offs], List.drop_eq_getElem_cons h2, h3]
                    rfl
                  rw [e]
                  exact .v rfl
                · cases hs) Tg.ok_no
              rw [hl1] at this
              exact this
          · cases he
    · exact hk.elim
  · exact ⟨_, _, hk, fun _ h => (by cases h), rfl, .inr rfl, fun cx w vs hp' kk _ _ _ hr => hr.mono (ext_minus cx w kk)⟩
mutual
theorem frzS_sound {h : List OB} {n0 : Nat} : ∀ {s : SV} {K : SV → List Nat → Prop}, frzS h n0 s K → ∃ s' ks, K s' ks ∧ Cold n0 (nthB h) ks ∧ wd s' = wd s ∧
    ∀ (cx : Cx) (w : World) (vs : List Value) (hp' : Nat → Option OB) (kk : List Nat), (∀ k ∈ ks, hp' k = nthB h k) → (∀ k ∈ ks, k ∈ kk) → Mem cx w hp' → RelC cx w s vs → RelC (cx.minus kk) w s' vs
  | .agg cs, K, hk => by
    simp only [frzS] at hk
    split at hk
    · obtain ⟨cs', ks, hk, c, w1, r⟩ := frzL_sound hk
      exact ⟨_, _, hk, c, by simp only [wd]; exact w1, r⟩
    · exact ⟨_, [], hk, fun _ h => (by cases h), rfl, fun cx w vs hp' kk _ _ _ hr => hr.mono (ext_minus cx w kk)⟩
  | .v x, K, hk => by simp only [frzS] at hk; obtain ⟨s', ks, a, b, c, _, d⟩ := frzOne_sound hk; exact ⟨s', ks, a, b, c, d⟩
  | .pb _ _, K, hk => by simp only [frzS] at hk; obtain ⟨s', ks, a, b, c, _, d⟩ := frzOne_sound hk; exact ⟨s', ks, a, b, c, d⟩
  | .pe _ _ _ _, K, hk => by simp only [frzS] at hk; obtain ⟨s', ks, a, b, c, _, d⟩ := frzOne_sound hk; exact ⟨s', ks, a, b, c, d⟩
  | .pf _ _ _ _, K, hk => by simp only [frzS] at hk; obtain ⟨s', ks, a, b, c, _, d⟩ := frzOne_sound hk; exact ⟨s', ks, a, b, c, d⟩
  | .ov _ _ _ _, K, hk => by simp only [frzS] at hk; obtain ⟨s', ks, a, b, c, _, d⟩ := frzOne_sound hk; exact ⟨s', ks, a, b, c, d⟩
  | .sb _ _ _ _, K, hk => by simp only [frzS] at hk; obtain ⟨s', ks, a, b, c, _, d⟩ := frzOne_sound hk; exact ⟨s', ks, a, b, c, d⟩
  | .fs _ _ _, K, hk => by simp only [frzS] at hk; obtain ⟨s', ks, a, b, c, _, d⟩ := frzOne_sound hk; exact ⟨s', ks, a, b, c, d⟩
  | .clo _ _, K, hk => by simp only [frzS] at hk; obtain ⟨s', ks, a, b, c, _, d⟩ := frzOne_sound hk; exact ⟨s', ks, a, b, c, d⟩
  | .ba _ _, K, hk => by simp only [frzS] at hk; obtain ⟨s', ks, a, b, c, _, d⟩ := frzOne_sound hk; exact ⟨s', ks, a, b, c, d⟩
  | .tup _, K, hk => by simp only [frzS] at hk; obtain ⟨s', ks, a, b, c, _, d⟩ := frzOne_sound hk; exact ⟨s', ks, a, b, c, d⟩
  | .top, K, hk => by simp only [frzS] at hk; obtain ⟨s', ks, a, b, c, _, d⟩ := frzOne_sound hk; exact ⟨s', ks, a, b, c, d⟩
theorem frzL_sound {h : List OB} {n0 : Nat} : ∀ {cs : List SV} {K : List SV → List Nat → Prop}, frzL h n0 cs K → ∃ cs' ks, K cs' ks ∧ Cold n0 (nthB h) ks ∧ wds cs' = wds cs ∧
    ∀ (cx : Cx) (w : World) (vs : List Value) (hp' : Nat → Option OB) (kk : List Nat), (∀ k ∈ ks, hp' k = nthB h k) → (∀ k ∈ ks, k ∈ kk) → Mem cx w hp' → RelC cx w (.agg cs) vs → RelC (cx.minus kk) w (.agg cs') vs
  | [], K, hk => ⟨[], [], hk, fun _ h => (by cases h), rfl, fun cx w vs hp' kk _ _ _ hr => hr.mono (ext_minus cx w kk)⟩
  | s :: r, K, hk => by
    obtain ⟨s', ks, hk, c1, w1, r1⟩ := frzS_sound (show frzS h n0 s _ from hk)
    obtain ⟨r', ks', hk, c2, w2, r2⟩ := frzL_sound hk
    rw [app_eq] at hk
    refine ⟨_, _, hk, fun k hk => (List.mem_append.1 hk).elim (c1 k) (c2 k), by simp [wds, w1, w2], fun cx w vs hp' kk hh hkk hm hr => ?_⟩
    obtain ⟨us, ws, rfl, h1, h2⟩ := hr.agg_inv
    exact .cons (r1 cx w us hp' kk (fun k hk => hh k (List.mem_append_left _ hk)) (fun k hk => hkk k (List.mem_append_left _ hk)) hm h1)
      (r2 cx w ws hp' kk (fun k hk => hh k (List.mem_append_right _ hk)) (fun k hk => hkk k (List.mem_append_right _ hk)) hm h2)
end
theorem frz_sound {h : List OB} {n0 : Nat} {s : SV} {K : SV → List Nat → Prop} (hk : frz h n0 s K) : ∃ s' ks, K s' ks ∧ Cold n0 (nthB h) ks ∧
    ∀ (cx : Cx) (w : World) (v : Value) (hp' : Nat → Option OB) (kk : List Nat), (∀ k ∈ ks, hp' k = nthB h k) → (∀ k ∈ ks, k ∈ kk) → Mem cx w hp' → RelV cx w s v → RelV (cx.minus kk) w s' v := by
  cases s with
  | agg cs =>
    obtain ⟨cs', ks, hk, c, _, r⟩ := frzL_sound hk
    exact ⟨_, _, hk, c, fun cx w v hp' kk hh hkk hm ⟨vs, hv, hr⟩ => ⟨vs, hv, r cx w vs hp' kk hh hkk hm hr⟩⟩
  | ov E k off m =>
    obtain ⟨s', ks, hk, c, _, hs, r⟩ := frzOne_sound (show frzOne h n0 (.ov E k off m) K from hk)
    refine ⟨s', ks, hk, c, fun cx w v hp' kk hh hkk hm hr => ?_⟩
    have := r cx w [v] hp' kk hh hkk hm hr
    rcases hs with ⟨t, E', rows, rfl⟩ | rfl <;> exact this
  | sb k p off m =>
    cases p with
    | nil =>
      obtain ⟨s', ks, hk, c, _, hs, r⟩ := frzOne_sound (show frzOne h n0 (.sb k [] off m) K from hk)
      refine ⟨s', ks, hk, c, fun cx w v hp' kk hh hkk hm hr => ?_⟩
      have := r cx w [v] hp' kk hh hkk hm hr
      rcases hs with ⟨t, E', rows, rfl⟩ | rfl <;> exact this
    | cons x r => exact ⟨_, [], hk, fun _ h => (by cases h), fun cx w v hp' kk _ _ _ hr => RelV.mono hr (ext_minus cx w kk)⟩
  | _ => exact ⟨_, [], hk, fun _ h => (by cases h), fun cx w v hp' kk _ _ _ hr => RelV.mono hr (ext_minus cx w kk)⟩
end Go.Fw

/- The executor is sound: arithmetic, addresses. -/
namespace Go.Fw
section
variable {P : Program} {TT : Nat → TI} {n : Sz} {e : List (Nat × SV)} {h : List OB} {K : Rec → Prop}
variable {dst : Option Nat} {ty : TypeId} {pos : String} {after : Array Edge} {guard : Option (Nat × Bool)}

theorem kbeq_eq {k k' : IntKind} (h : kbeq k k' = true) : k = k' := by cases k <;> cases k' <;> first | rfl | (simp [kbeq] at h)

theorem s_unOp {op : UnOp} {t : TypeId} {x : Operand} (hn : inFrame n dst = true) (hx : xOp P TT n ⟨dst, .unOp op t x, ty, pos, after, guard⟩ e h K) : Goal P ⟨dst, .unOp op t x, ty, pos, after, guard⟩ n e h K := by
  obtain ⟨s, h1, hk⟩ := opd_sound hx
  simp only [nm_eq, wr_eq] at hk
  split at hk <;> first
    | exact hk.elim
    | (refine ⟨_, opD_plain _ hn fun cx w a hr => ?_, hk⟩
       have e1 := relV_v (h1.rel hr fun t ht => mem_slotsOf (by simp [Op.operands, ht]))
       refine ⟨_, ?_, RelC.v (by rfl)⟩
       simp only [execOp, e1, Op.unary, Op.intArith, Op.intBits, Sem.run_bind, Sem.run_pure, Result.andThen_ok])

theorem s_convertN {c d : TypeId} {x : Operand} (hT : TTok P TT) (hn : inFrame n dst = true) {s : SV} (h1 : OpdR (lk e) x s) (hk : convN ⟨dst, .convert c d x, ty, pos, after, guard⟩ (TT c) (TT d) s K) : Goal P ⟨dst, .convert c d x, ty, pos, after, guard⟩ n e h K := by
  unfold convN at hk
  simp only [wr_eq] at hk
  split at hk
  · exact hk.elim
  · rename_i hne
    split at hk
    · rename_i k' m k h1 hd
      refine ⟨_, opD_plain _ hn fun cx w a hr => ?_, hk⟩
      have e1 := relV_v (h1.rel hr fun t ht => mem_slotsOf (by simp [Op.operands, ht]))
      refine ⟨_, ?_, RelC.v (by rfl)⟩
      obtain ⟨dc, hc, _⟩ := (hT c).underlying hne
      have hdd := (hT d).desc
      rw [hd] at hdd
      simp only [descOK] at hdd
      simp only [execOp, e1, convert, Sem.run_bind, run_underlying hc, run_underlying hdd, Result.andThen_ok, Conv.intToInt, Sem.run_pure]
    · exact hk.elim

theorem s_makeFunc {fn : Fn} {first caps : Array Operand} (hn : inFrame n dst = true) (hx : xOp P TT n ⟨dst, .makeFunc fn first caps, ty, pos, after, guard⟩ e h K) : Goal P ⟨dst, .makeFunc fn first caps, ty, pos, after, guard⟩ n e h K := by
  cases fn <;> simp only [xOp] at hx <;> try exact hx.elim
  rename_i f
  split at hx
  · rename_i hf
    obtain ⟨ss, hl, hs, hk⟩ := opds_sound hx
    split at hk
    · rename_i hne
      have hfirst : first = #[] := by cases first; simp_all
      subst hfirst
      refine ⟨_, opD_plain _ hn fun cx w a hr => ?_, hk⟩
      refine ⟨.func (.func f) #[] (caps.map a.eval), by simp [execOp, Instr.makeFunc], ?_⟩
      have := RelC.clo (cx := cx) (w := w) (f := f) (caps := ss) ((caps.map a.eval).toList) (by simp [hl]) (fun i s x h1 h2 => by
        simp only [Array.toList_map, List.getElem?_map] at h2
        cases hc : caps.toList[i]? with
        | none => rw [hc] at h2; cases h2
        | some o =>
          rw [hc] at h2
          simp only [Option.map_some, Option.some.injEq] at h2
          subst h2
          have hrel := (hs i o s hc h1).rel hr fun t ht => mem_slotsOf (by
            subst ht
            simp only [Op.operands, Array.toList_append, List.mem_append]
            exact .inr (List.mem_of_getElem? hc))
          have hone : scal s = true := by
            simp only [List.all_eq_true] at hne
            exact hne s (List.mem_of_getElem? h1)
          cases s <;> simp only [scal, Bool.false_eq_true] at hone <;> exact hrel)
      rw [show (caps.map a.eval).toList.toArray = caps.map a.eval from rfl] at this
      exact this
    · exact hk.elim
  · exact hx.elim

theorem s_extract {x : Operand} {i : Nat} (hn : inFrame n dst = true) (hx : xOp P TT n ⟨dst, .extract x i, ty, pos, after, guard⟩ e h K) : Goal P ⟨dst, .extract x i, ty, pos, after, guard⟩ n e h K := by
  obtain ⟨s, h1, hk⟩ := opd_sound hx
  split at hk
  · rename_i l
    split at hk
    · rename_i y hy
      rw [nth_eq] at hy
      refine ⟨_, opD_plain _ hn fun cx w a hr => ?_, hk⟩
      obtain ⟨vs, hv, hl⟩ := h1.rel hr fun t ht => mem_slotsOf (by simp [Op.operands, ht])
      have get : ∀ {l vs}, RelVL cx w l vs → ∀ (i : Nat) y, l[i]? = some y → ∃ v, vs[i]? = some v ∧ RelV1 cx w y v := by
        intro l vs hl
        induction hl with
        | nil => intro i y h; simp at h
        | cons h1 _ ih =>
          intro i y h
          cases i with
          | zero => simp at h; subst h; exact ⟨_, rfl, h1⟩
          | succ i => simp at h; simpa using ih i y h
      obtain ⟨v, hv1, hv2⟩ := get hl i y hy
      refine ⟨v, ?_, ?_⟩
      · simp only [execOp, hv, Instr.extract, List.getElem?_toArray, hv1, Sem.run_bind, Sem.run_pure, Result.andThen_ok]
      · cases y <;> first | exact hv2 | exact hv2.elim
    · exact hk.elim
  · exact hk.elim

theorem offs_snoc (p : List PS) (x : PS) : offs (snoc p x) = offs p + offs [x] := by
  induction p with
  | nil => cases x <;> simp [snoc, offs]
  | cons y p ih => cases y <;> simp [snoc, offs, ih] <;> omega
theorem offs_fld (p : List PS) (j off : Nat) : offs (snoc p (.fld j off)) = offs p + off := by rw [offs_snoc]; simp [offs]
theorem offs_ix (p : List PS) (E n i : Nat) : offs (snoc p (.ix E n i)) = offs p + i * E := by rw [offs_snoc]; simp [offs]

theorem s_fieldAddr {t : TypeId} {x : Operand} {f : Nat} (hT : TTok P TT) (hn : inFrame n dst = true) (hx : xOp P TT n ⟨dst, .fieldAddr t x f, ty, pos, after, guard⟩ e h K) : Goal P ⟨dst, .fieldAddr t x f, ty, pos, after, guard⟩ n e h K := by
  obtain ⟨s, h1, hk⟩ := opd_sound hx
  split at hk
  · rename_i fs ft z hti
    have hd := (hT t).desc
    rw [hti] at hd
    split at hk
    · rename_i off sz hf
      obtain ⟨fields, fd, i, hu, hfd, hoff, hi, hsz⟩ := fields_get hd.1 hf
      split at hk
      · rename_i hpos
        have hpos : 0 < sz := by simpa using hpos
        have run : ∀ (w : World) (a : Act) (b o1 : Nat), a.eval x = .pointer (some ⟨b, o1, none⟩) →
            (execOp a.eval ⟨dst, .fieldAddr t x f, ty, pos, after, guard⟩).run P w = .ok (.value (.pointer (some ⟨b, o1 + off, none⟩))) w := by
          intro w a b o1 he
          have hne : i.size ≠ 0 := by omega
          simp only [execOp, Instr.fieldAt, he, Instr.sureAddr, fieldPlace, Sem.run_bind, run_underlying hu, Result.andThen_ok, hfd, Sem.run_pure, run_sizeOf' hi, hne, if_false, add_none, hoff]
        split at hk
        · refine ⟨_, opD_plain _ hn fun cx w a hr => ?_, hk⟩
          have hv := h1.rel hr fun t ht => mem_slotsOf (by simp [Op.operands, ht])
          replace hv : RelC cx w _ [a.eval x] := hv
          generalize hv0 : a.eval x = v0 at hv
          cases hv with
          | pb hb => exact ⟨_, run w a _ _ hv0, by rw [← offs_fld]; exact .pb hb⟩
        · refine ⟨_, opD_plain _ hn fun cx w a hr => ?_, hk⟩
          have hv := h1.rel hr fun t ht => mem_slotsOf (by simp [Op.operands, ht])
          replace hv : RelC cx w _ [a.eval x] := hv
          generalize hv0 : a.eval x = v0 at hv
          cases hv with
          | pe hb => exact ⟨_, run w a _ _ hv0, by rw [Nat.add_assoc, ← offs_fld]; exact .pe hb⟩
        · refine ⟨_, opD_plain _ hn fun cx w a hr => ?_, hk⟩
          have hv := h1.rel hr fun t ht => mem_slotsOf (by simp [Op.operands, ht])
          replace hv : RelC cx w _ [a.eval x] := hv
          generalize hv0 : a.eval x = v0 at hv
          cases hv with
          | pf hb => exact ⟨_, run w a _ _ hv0, by rw [Nat.add_assoc, ← offs_fld]; exact .pf hb⟩
        · exact hk.elim
      · exact hk.elim
    · exact hk.elim
  · exact hk.elim

theorem intOf_sound {s : SV} {K : Int → Prop} (h : intOf? s K) : ∃ k m, s = .v (.int k m) ∧ K m := by
  unfold intOf? at h
  split at h
  · exact ⟨_, _, rfl, h⟩
  · exact h.elim

theorem s_indexAddr {t : TypeId} {x i : Operand} (hT : TTok P TT) (hn : inFrame n dst = true) (hx : xOp P TT n ⟨dst, .indexAddr t x i, ty, pos, after, guard⟩ e h K) : Goal P ⟨dst, .indexAddr t x i, ty, pos, after, guard⟩ n e h K := by
  obtain ⟨s, h1, hk⟩ := opd_sound hx
  obtain ⟨si, h2, hk⟩ := opd_sound hk
  obtain ⟨kd, m, rfl, hk⟩ := intOf_sound hk
  have hd := (hT t).desc
  have ev2 : ∀ (cx : Cx) (w : World) (a : Act), Reads (lk e) (slotsOf (Op.indexAddr t x i).operands.toList) cx w a → a.eval i = .int kd m := fun cx w a hr =>
    relV_v (h2.rel hr fun t ht => mem_slotsOf (by simp [Op.operands, ht]))
  have runS : ∀ (w : World) (a : Act) (b off len cap E : Nat) (bytes : Nat) (z : SV), TT t = .slc E bytes z → a.eval x = .slice (some ⟨b, off, none⟩) len cap → a.eval i = .int kd m → 0 ≤ m ∧ m < len →
      (execOp a.eval ⟨dst, .indexAddr t x i, ty, pos, after, guard⟩).run P w = .ok (.value (.pointer (some ⟨b, off + m.toNat * E, none⟩))) w := by
    intro w a b off len cap E bytes z hti hx hi hm
    rw [hti] at hd
    obtain ⟨el, hu, hie, _⟩ := hd
    obtain ⟨ie, hie1, hie2, _, _⟩ := hie.mk
    simp only [execOp, Instr.indexAt, hx, hi, asIntOf, Sem.run_bind, Sem.run_pure, Result.andThen_ok, run_underlying hu, if_pos hm, run_sizeOf' hie1, hie2, add_none]
  have runA : ∀ (w : World) (a : Act) (b off l E el : Nat) (z : SV), TT t = .arr l E el z → a.eval x = .pointer (some ⟨b, off, none⟩) → a.eval i = .int kd m → 0 ≤ m ∧ m < l →
      (execOp a.eval ⟨dst, .indexAddr t x i, ty, pos, after, guard⟩).run P w = .ok (.value (.pointer (some ⟨b, off + m.toNat * E, none⟩))) w := by
    intro w a b off l E el z hti hx hi hm
    rw [hti] at hd
    obtain ⟨hu, ⟨_, _, hie⟩, _⟩ := hd
    obtain ⟨ie, hie1, hie2, _, _⟩ := hie.mk
    simp only [execOp, Instr.indexAt, hx, hi, asIntOf, Instr.sureAddr, Sem.run_bind, Sem.run_pure, Result.andThen_ok, run_underlying hu, if_pos hm, run_sizeOf' hie1, hie2, add_none]
  simp only [nm_eq, wr_eq] at hk
  generalize hti : TT t = ti at hk
  split at hk
  · rename_i E0 bytes z t0 E rows _ _
    unfold okT at hk
    split at hk
    · rename_i hE
      have hE := Nat.eq_of_beq_eq_true hE
      subst hE
      obtain ⟨hm, hk⟩ := need_iff.1 hk
      refine ⟨_, opD_plain _ hn fun cx w a hr => ?_, hk⟩
      have hv := h1.rel hr fun t ht => mem_slotsOf (by simp [Op.operands, ht])
      replace hv : RelC cx w _ [a.eval x] := hv
      generalize hv0 : a.eval x = v0 at hv
      cases hv with
      | fs0 => simp at hm; omega
      | fs f a1 a2 a3 a4 a5 a6 a7 => exact ⟨_, runS w a _ _ _ _ _ _ _ hti hv0 (ev2 cx w a hr) hm, .pf (p := []) (.fs f a1 a2 a3 a4 a5 a6 a7)⟩
    · exact hk.elim
  · rename_i E0 bytes z E k off len _ _
    unfold okT at hk
    split at hk
    · rename_i hE
      have hE := Nat.eq_of_beq_eq_true hE
      subst hE
      obtain ⟨hm, hk⟩ := need_iff.1 hk
      refine ⟨_, opD_plain _ hn fun cx w a hr => ?_, hk⟩
      have hv := h1.rel hr fun t ht => mem_slotsOf (by simp [Op.operands, ht])
      replace hv : RelC cx w _ [a.eval x] := hv
      generalize hv0 : a.eval x = v0 at hv
      cases hv with
      | ov hb hC =>
        refine ⟨_, runS w a _ _ _ _ _ _ _ hti hv0 (ev2 cx w a hr) hm, ?_⟩
        rw [← Nat.add_mul]
        exact .pe (p := []) hb
      | ov0 => simp at hm; omega
      | ovz => simp at hm; omega
    · exact hk.elim
  · rename_i E0 bytes z k p off len _ _
    split at hk
    · unfold okT at hk
      split at hk
      · rename_i hE
        have hE := Nat.eq_of_beq_eq_true hE
        subst hE
        obtain ⟨hm, hk⟩ := need_iff.1 hk
        obtain ⟨y, hk, _⟩ := follow_sound _ _ _ hk
        split at hk
        · rename_i N _ _
          refine ⟨_, opD_plain _ hn fun cx w a hr => ?_, hk⟩
          have hv := h1.rel hr fun t ht => mem_slotsOf (by simp [Op.operands, ht])
          replace hv : RelC cx w _ [a.eval x] := hv
          generalize hv0 : a.eval x = v0 at hv
          cases hv with
          | sb hb hC =>
            refine ⟨_, runS w a _ _ _ _ _ _ _ hti hv0 (ev2 cx w a hr) hm, ?_⟩
            have e1 : ∀ b : Nat, offs p + off + m.toNat * 1 = offs (snoc p (.ix 1 N (off + m.toNat))) := fun _ => by rw [offs_ix, Nat.mul_one, Nat.mul_one, Nat.add_assoc]
            rw [e1 0]
            exact .pb hb
        · exact hk.elim
      · exact hk.elim
    · exact hk.elim
  · rename_i l E el z k p _ _
    obtain ⟨hm, hk⟩ := need_iff.1 hk
    refine ⟨_, opD_plain _ hn fun cx w a hr => ?_, hk⟩
    have hv := h1.rel hr fun t ht => mem_slotsOf (by simp [Op.operands, ht])
    replace hv : RelC cx w _ [a.eval x] := hv
    generalize hv0 : a.eval x = v0 at hv
    cases hv with
    | pb hb => exact ⟨_, runA w a _ _ _ _ _ _ hti hv0 (ev2 cx w a hr) hm, by rw [← offs_ix p E l]; exact .pb hb⟩
  · rename_i l E el z E' k j p _ _
    obtain ⟨hm, hk⟩ := need_iff.1 hk
    refine ⟨_, opD_plain _ hn fun cx w a hr => ?_, hk⟩
    have hv := h1.rel hr fun t ht => mem_slotsOf (by simp [Op.operands, ht])
    replace hv : RelC cx w _ [a.eval x] := hv
    generalize hv0 : a.eval x = v0 at hv
    cases hv with
    | pe hb => exact ⟨_, runA w a _ _ _ _ _ _ hti hv0 (ev2 cx w a hr) hm, by rw [Nat.add_assoc, ← offs_ix p E l]; exact .pe hb⟩
  · rename_i l E el z E' rows j p _ _
    obtain ⟨hm, hk⟩ := need_iff.1 hk
    refine ⟨_, opD_plain _ hn fun cx w a hr => ?_, hk⟩
    have hv := h1.rel hr fun t ht => mem_slotsOf (by simp [Op.operands, ht])
    replace hv : RelC cx w _ [a.eval x] := hv
    generalize hv0 : a.eval x = v0 at hv
    cases hv with
    | pf hb => exact ⟨_, runA w a _ _ _ _ _ _ hti hv0 (ev2 cx w a hr) hm, by rw [Nat.add_assoc, ← offs_ix p E l]; exact .pf hb⟩
  · exact hk.elim
end
end Go.Fw

/- The executor is sound: parts of values, equality, stores. -/
namespace Go.Fw
section
variable {P : Program} {TT : Nat → TI} {n : Sz} {e : List (Nat × SV)} {h : List OB} {K : Rec → Prop}
variable {dst : Option Nat} {ty : TypeId} {pos : String} {after : Array Edge} {guard : Option (Nat × Bool)}

theorem run_part_rel {t : TypeId} {ti : TI} (ht : TIok P t ti) {y : SV} (hy : ofType ti y = true) {cx : Cx} {w : World} {vs : List Value} {off : Nat}
    (hr : RelC cx w y ((vs.drop off).take (wd y))) : ∃ v, (part t vs.toArray off).run P w = .ok v w ∧ RelV cx w y v := by
  have hn := ofType_ne hy
  obtain ⟨⟨by_, hi⟩, _⟩ := ht.info hn
  obtain ⟨i, hi1, hi2, _, _⟩ := hi.mk
  have hwd := ofType_wd ht hy
  cases ha : ti.isAgg with
  | true =>
    refine ⟨.agg ((vs.drop off).take (wd y)).toArray, ?_, ?_⟩
    · simp only [part, Sem.run_bind, run_isAgg ht hn, ha, Result.andThen_ok, if_true, run_sizeOf' hi1, Sem.run_pure]
      rw [hi2, ← hwd]
      congr 3
      apply Array.ext'
      simp
    · cases ti <;> simp only [TI.isAgg, Bool.false_eq_true] at ha <;> cases y <;> simp only [ofType, TI.isAgg, Bool.false_eq_true] at hy <;> exact ⟨_, rfl, hr⟩
  | false =>
    have hone : wd y = 1 := by
      cases ti <;> simp only [TI.isAgg, Bool.true_eq_false] at ha <;> cases y <;> simp only [ofType, TI.isAgg, Bool.false_eq_true] at hy <;> rfl
    have hl := hr.width
    rw [hone] at hr hl
    obtain ⟨x, hx⟩ : ∃ x, (vs.drop off).take 1 = [x] := by
      cases hd : (vs.drop off).take 1 with
      | nil => rw [hd] at hl; cases hl
      | cons x r =>
        rw [hd] at hl
        cases r with
        | nil => exact ⟨x, rfl⟩
        | cons => simp at hl
    rw [hx] at hr
    have hg : vs[off]? = some x := by
      have : ((vs.drop off).take 1)[0]? = some x := by rw [hx]; rfl
      simpa using this
    refine ⟨x, ?_, ?_⟩
    · simp only [part, Sem.run_bind, run_isAgg ht hn, ha, Result.andThen_ok, Bool.false_eq_true, if_false, List.getElem?_toArray, hg, Sem.run_pure]
    · cases ti <;> simp only [TI.isAgg, Bool.true_eq_false] at ha <;> cases y <;> simp only [ofType, TI.isAgg, Bool.false_eq_true] at hy <;> exact hr

theorem fieldsOf_eq {t : TypeId} {fs : List (Option (Nat × Nat))} (h : structOf P t = some fs) : P.underlying t = some (.struct (P.fieldsOf t)) := by
  unfold structOf at h
  split at h
  · rename_i f hu; simp [Program.fieldsOf, hu]
  · cases h

theorem layout_get : ∀ (cs : List SV) (off j : Nat) (s : SV), cs[j]? = some s → (layout cs off)[j]? = some (off + wds (cs.take j), wd s)
  | [], _, j, s, h => by simp at h
  | x :: cs, off, 0, s, h => by simp at h; subst h; simp [layout, wds]
  | x :: cs, off, j + 1, s, h => by
    simp at h
    have := layout_get cs (off + wd x) j s h
    simp [layout, wds, this]; omega
theorem layout_len : ∀ (cs : List SV) (off : Nat), (layout cs off).length = cs.length
  | [], _ => rfl
  | _ :: cs, off => by simp [layout, layout_len cs]

/-- What equality of two values of a type comes to. -/
def EqAt' (P : Program) (TT : Nat → TI) (d : Nat) : Prop :=
  ∀ (t : TypeId) (x y : SV) (b : Bool) (D : Nat) (cx : Cx) (w : World) (vx vy : Value), eqT TT d t x y = some b → d + 1 ≤ D → RelV cx w x vx → RelV cx w y vy →
    (Op.equalIn D t vx vy).run P w = .ok b w
/-- The lists' side: the components of a struct or an array, from an offset on. -/
def EqsAt (P : Program) (TT : Nat → TI) (d : Nat) : Prop :=
  ∀ (ts : List Nat) (xs ys : List SV) (c : Bool), eqT.go TT d ts xs ys = some c →
    (∀ (fields : List Field) (D off : Nat) (cx : Cx) (w : World) (vx vy : List Value), d + 1 ≤ D → fields.map (fun f => f.type) = ts → (∀ f ∈ fields, f.name ≠ "_") →
      (fields.map fun f => (P.info? f.type).map fun i => (f.offset, i.size)) = (layout xs off).map some → (layout ys off) = (layout xs off) →
      RelC cx w (.agg xs) (vx.drop off) → RelC cx w (.agg ys) (vy.drop off) → (Op.eqFields D vx.toArray vy.toArray fields).run P w = .ok c w) ∧
    (∀ (el : TypeId) (D E i m : Nat) (cx : Cx) (w : World) (vx vy : List Value), d + 1 ≤ D → ts = reps m el → (P.info? el).map (·.size) = some E →
      RelC cx w (.agg xs) (vx.drop (i * E)) → RelC cx w (.agg ys) (vy.drop (i * E)) → (Op.eqItems D el E vx.toArray vy.toArray (List.range' i m)).run P w = .ok c w)

theorem relC_agg_cons {cx w s cs vs} (h : RelC cx w (.agg (s :: cs)) vs) : RelC cx w s (vs.take (wd s)) ∧ RelC cx w (.agg cs) (vs.drop (wd s)) := by
  obtain ⟨us, ws, rfl, h1, h2⟩ := h.agg_inv
  have := h1.width
  rw [← this]
  simpa using ⟨h1, h2⟩

theorem eqs_step (hT : TTok P TT) {d : Nat} (h1 : EqAt' P TT d) (h2 : EqsAt P TT d) : EqsAt P TT (d + 1) := by
  intro ts xs ys c hc
  cases ts with
  | nil =>
    cases xs <;> cases ys <;> simp only [eqT.go] at hc <;> try cases hc
    refine ⟨fun fields D off cx w vx vy _ hf _ _ _ _ _ => ?_, fun el D E i m cx w vx vy _ hm _ _ _ => ?_⟩
    · cases fields with
      | nil => simp [Op.eqFields]
      | cons => simp at hf
    · cases m with
      | zero => simp [Op.eqItems]
      | succ m => simp [reps] at hm
  | cons t ts =>
    cases xs with
    | nil => cases ys <;> simp [eqT.go] at hc
    | cons x xs =>
      cases ys with
      | nil => simp [eqT.go] at hc
      | cons y ys =>
        simp only [eqT.go] at hc
        split at hc
        · rename_i b hx hy hb
          split at hc
          · rename_i c' hc'
            cases hc
            have ih := h2 ts xs ys c' hc'
            refine ⟨fun fields D off cx w vx vy hD hf hnm hl hll rx ry => ?_, fun el D E i m cx w vx vy hD hm hE rx ry => ?_⟩
            · cases fields with
              | nil => simp at hf
              | cons f fields =>
                simp only [List.map_cons, List.cons.injEq, layout] at hf hl
                obtain ⟨rfl, hf⟩ := hf
                obtain ⟨hl0, hl1⟩ := hl
                simp only [layout, List.cons.injEq, Prod.mk.injEq] at hll
                obtain ⟨⟨_, hwy⟩, hll⟩ := hll
                have hoff : f.offset = off := by
                  cases hi : P.info? f.type with
                  | none => rw [hi] at hl0; cases hl0
                  | some i => rw [hi] at hl0; simp only [Option.map_some, Option.some.injEq, Prod.mk.injEq] at hl0; exact hl0.1
                obtain ⟨rx1, rx2⟩ := relC_agg_cons rx
                obtain ⟨ry1, ry2⟩ := relC_agg_cons ry
                rw [List.drop_drop] at rx2 ry2
                obtain ⟨ux, px, qx⟩ := run_part_rel (hT f.type) hx rx1
                obtain ⟨uy, py, qy⟩ := run_part_rel (hT f.type) hy ry1
                have hn : f.name ≠ "_" := hnm f (by simp)
                have he := h1 f.type x y b D cx w ux uy hb (by omega) qx qy
                rw [hwy] at ry2 hll
                have hrest := ih.1 fields D (off + wd x) cx w vx vy (by omega) hf (fun g hg => hnm g (by simp [hg])) hl1 hll rx2 ry2
                simp only [Op.eqFields, hn, ne_eq, not_false_eq_true, if_true, hoff, Sem.run_bind, px, py, he, Result.andThen_ok, Sem.run_ite, Sem.run_pure, hrest]
                cases b <;> simp
            · cases m with
              | zero => simp [reps] at hm
              | succ m =>
                simp only [reps, List.cons.injEq] at hm
                obtain ⟨rfl, hm⟩ := hm
                have hwx := ofType_wd (hT t) hx
                have hwy := ofType_wd (hT t) hy
                have hEx : wd x = E := by
                  obtain ⟨⟨by_, hi⟩, _⟩ := (hT t).info (ofType_ne hx)
                  obtain ⟨i', hi1, hi2, _, _⟩ := hi.mk
                  rw [hi1] at hE
                  simp only [Option.map_some, Option.some.injEq] at hE
                  omega
                obtain ⟨rx1, rx2⟩ := relC_agg_cons rx
                obtain ⟨ry1, ry2⟩ := relC_agg_cons ry
                rw [List.drop_drop, show i * E + wd x = (i + 1) * E by rw [hEx, Nat.add_mul]; omega] at rx2
                rw [List.drop_drop, show i * E + wd y = (i + 1) * E by rw [hwy, ← hwx, hEx, Nat.add_mul]; omega] at ry2
                obtain ⟨ux, px, qx⟩ := run_part_rel (hT t) hx rx1
                obtain ⟨uy, py, qy⟩ := run_part_rel (hT t) hy ry1
                have he := h1 t x y b D cx w ux uy hb (by omega) qx qy
                have hrest := ih.2 t D E (i + 1) m cx w vx vy (by omega) hm hE rx2 ry2
                simp only [List.range'_succ, Op.eqItems, Sem.run_bind, px, py, he, Result.andThen_ok, Sem.run_ite, Sem.run_pure, hrest]
                cases b <;> simp
          · cases hc
        · cases hc

theorem reps_len {α : Type} : ∀ (n : Nat) (x : α), (reps n x).length = n
  | 0, _ => rfl
  | n + 1, x => by simp [reps, reps_len n x]
theorem bytes_eq {d : Nat} {el : TypeId} (hu : P.underlying el = some (.int .u8)) : ∀ (l r pl pr : List Int) (m : Nat) (w : World), l.length = m → r.length = m → pl.length = pr.length → (P.info? el).map (·.size) = some 1 →
    (Op.eqItems (d + 1) el 1 ((pl ++ l).map fun x => Value.int .u8 x).toArray ((pr ++ r).map fun x => Value.int .u8 x).toArray (List.range' pl.length m)).run P w = .ok (l == r) w
  | [], [], _, _, m, w, hl, _, _, _ => by subst hl; simp [Op.eqItems]
  | [], _ :: _, _, _, m, w, hl, hr, _, _ => by simp at hl hr; omega
  | _ :: _, [], _, _, m, w, hl, hr, _, _ => by simp at hl hr; omega
  | x :: l, y :: r, pl, pr, m, w, hl, hr, hp, hE => by
    cases m with
    | zero => simp at hl
    | succ m =>
      have ih := bytes_eq (d := d) hu l r (pl ++ [x]) (pr ++ [y]) m w (by simpa using hl) (by simpa using hr) (by simp [hp]) hE
      have hagg : (isAgg el).run P w = .ok false w := by simp [isAgg, run_underlying hu]
      have p1 : (part el ((pl ++ x :: l).map fun x => Value.int .u8 x).toArray (pl.length * 1)).run P w = .ok (.int .u8 x) w := by
        simp [part, hagg]
      have p2 : (part el ((pr ++ y :: r).map fun x => Value.int .u8 x).toArray (pl.length * 1)).run P w = .ok (.int .u8 y) w := by
        simp [part, hagg, hp]
      have p3 : (Op.equalIn (d + 1) el (.int .u8 x) (.int .u8 y)).run P w = .ok (x == y) w := run_equalIn_int w d el .u8 .u8 x y hu
      simp only [List.append_assoc, List.cons_append, List.nil_append, List.length_append, List.length_cons, List.length_nil, Nat.zero_add] at ih
      simp only [List.range'_succ, Op.eqItems, Sem.run_bind, p1, p2, p3, Result.andThen_ok, Sem.run_ite, Sem.run_pure, ih]
      by_cases hxy : x = y
      · subst hxy; simp
      · have : (x == y) = false := by simpa using hxy
        simp [this]

def layW : List Nat → Nat → List (Nat × Nat)
  | [], _ => []
  | n :: r, off => (off, n) :: layW r (off + n)
theorem layout_layW : ∀ (cs : List SV) (off : Nat), layout cs off = layW (cs.map wd) off
  | [], _ => rfl
  | s :: r, off => by simp [layout, layW, layout_layW r]
theorem layW_snd : ∀ (l : List Nat) (off : Nat), (layW l off).map Prod.snd = l
  | [], _ => rfl
  | n :: r, off => by simp [layW, layW_snd r]
theorem go_widths (hT : TTok P TT) : ∀ (d : Nat) (ts : List Nat) (xs ys : List SV) (c : Bool), eqT.go TT d ts xs ys = some c →
    xs.map wd = ts.map (fun t => wd (TT t).zero) ∧ ys.map wd = ts.map (fun t => wd (TT t).zero)
  | 0, _, _, _, _, h => by simp [eqT.go] at h
  | d + 1, [], xs, ys, c, h => by cases xs <;> cases ys <;> simp [eqT.go] at h ⊢
  | d + 1, t :: ts, [], ys, c, h => by cases ys <;> simp [eqT.go] at h
  | d + 1, t :: ts, x :: xs, [], c, h => by simp [eqT.go] at h
  | d + 1, t :: ts, x :: xs, y :: ys, c, h => by
    simp only [eqT.go] at h
    split at h
    · rename_i b hx hy hb
      split at h
      · rename_i c' hc'
        have := go_widths hT d ts xs ys c' hc'
        simp [this, ofType_wd (hT t) hx, ofType_wd (hT t) hy]
      · cases h
    · cases h

theorem eq_step (hT : TTok P TT) {d : Nat} (h2 : EqsAt P TT d) : EqAt' P TT (d + 1) := by
  intro t x y b D cx w vx vy he hD rx ry
  obtain ⟨D, rfl⟩ : ∃ D', D = D' + 1 := ⟨D - 1, by omega⟩
  have hd := (hT t).desc
  simp only [eqT] at he
  generalize hti : TT t = ti at he hd
  split at he
  · rename_i k
    split at he
    · rename_i k1 a k2 b'
      split at he
      · rename_i e1 e2
        cases he
        cases kbeq_eq e1; cases kbeq_eq e2
        rw [relV_v rx, relV_v ry]
        exact run_equalIn_int w D t k k a b' hd
      · cases he
    · cases he
  · split at he
    · rename_i a b'
      cases he
      rw [relV_v rx, relV_v ry]
      exact run_equalIn_bool w D t a b' hd
    · cases he
  · rename_i fs u ft z
    split at he
    · rename_i xs ys
      obtain ⟨hs, ⟨cs, hz, hfs⟩, hrest⟩ := hd
      obtain ⟨hty, hheld, _⟩ := hrest (by simp)
      obtain ⟨vs, rfl, rx⟩ := rx
      obtain ⟨us, rfl, ry⟩ := ry
      rw [run_equalIn_struct w D t _ _ (fieldsOf_eq hs) hheld]
      have hw := go_widths hT _ _ _ _ _ he
      have hu := fieldsOf_eq hs
      unfold typesOf at hty
      unfold structOf at hs
      rw [hu] at hty hs
      simp only [Option.some.injEq] at hs
      cases hall : (P.fieldsOf t).toList.all fun f => f.name != "_" with
      | true =>
        simp only [hall, Option.some.injEq] at hty
        have hsz : fs.map Prod.snd = (u :: ft).map (fun t => wd (TT t).zero) := by
          have e1 : ((P.fieldsOf t).toList.map fun f => (P.info? f.type).map fun i => i.size) = (fs.map Prod.snd).map some := by
            have := congrArg (List.map (Option.map Prod.snd)) hs
            simpa [List.map_map, Function.comp_def] using this
          have hlen : (fs.map Prod.snd).length = ((u :: ft).map (fun t => wd (TT t).zero)).length := by
            have := congrArg List.length e1
            have h3 := congrArg List.length hty
            simp at this h3 ⊢
            omega
          apply List.ext_getElem? 
          intro j
          by_cases hj : j < (P.fieldsOf t).toList.length
          · have a1 := congrArg (fun l => l[j]?) e1
            have a2 := congrArg (fun l => l[j]?) hty
            simp only [List.getElem?_map, List.getElem?_eq_getElem hj, Option.map_some] at a1 a2
            generalize (P.fieldsOf t).toList[j] = f at a1 a2
            rw [List.getElem?_map, List.getElem?_map]
            have a2' := a2.symm
            rw [a2']
            simp only [Option.map_some]
            cases hf : fs[j]? with
            | none => rw [hf] at a1; simp at a1
            | some q =>
              rw [hf] at a1
              simp only [Option.map_some, Option.some.injEq] at a1
              have hq : ∃ i, P.info? f.type = some i ∧ i.size = q.2 := by
                cases hi : P.info? f.type with
                | none => rw [hi] at a1; cases a1
                | some i => rw [hi] at a1; simp at a1; exact ⟨i, rfl, a1⟩
              obtain ⟨i, hi, hi2⟩ := hq
              by_cases hnn : TT f.type = .none
              · exfalso
                obtain ⟨d', rfl⟩ : ∃ d', d = d' + 1 := by cases d with | zero => simp [eqT.go] at he | succ d' => exact ⟨d', rfl⟩
                have key : ∀ (d : Nat) (ts : List Nat) (xs ys : List SV) (c : Bool), eqT.go TT d ts xs ys = some c → ∀ t ∈ ts, TT t ≠ .none := by
                  intro d
                  induction d with
                  | zero => intro ts xs ys c h; simp [eqT.go] at h
                  | succ d ih =>
                    intro ts xs ys c h t ht
                    cases ts with
                    | nil => cases ht
                    | cons t0 ts =>
                      cases xs with
                      | nil => cases ys <;> simp [eqT.go] at h
                      | cons x xs =>
                        cases ys with
                        | nil => simp [eqT.go] at h
                        | cons y ys =>
                          simp only [eqT.go] at h
                          split at h
                          · rename_i b hx hy hb
                            split at h
                            · rename_i c' hc'
                              rcases List.mem_cons.1 ht with rfl | ht
                              · exact ofType_ne hx
                              · exact ih ts xs ys c' hc' t ht
                            · cases h
                          · cases h
                exact key _ _ _ _ _ he f.type (List.mem_of_getElem? a2.symm) hnn
              · obtain ⟨⟨by_, hi'⟩, _⟩ := (hT f.type).info hnn
                obtain ⟨i', hi1, hi3, _, _⟩ := hi'.mk
                rw [hi] at hi1
                cases hi1
                simp; omega
          · have h3 := congrArg List.length hty
            have h4 := congrArg List.length e1
            simp at h3 h4 hj
            rw [List.getElem?_eq_none (by simp; omega), List.getElem?_eq_none (by simp; omega)]
        have hlx : layout xs 0 = fs := by
          rw [layout_layW, hw.1, ← hsz, hfs, layout_layW, layW_snd]
        have hly : layout ys 0 = fs := by
          rw [layout_layW, hw.2, ← hsz, hfs, layout_layW, layW_snd]
        refine (h2 _ _ _ _ he).1 _ D 0 cx w vs us (by omega) hty ?_ ?_ ?_ (by simpa using rx) (by simpa using ry)
        · intro f hf
          have := (List.all_eq_true.1 hall) f hf
          simpa using this
        · rw [hlx]; exact hs
        · rw [hlx, hly]
      | false => simp only [hall] at hty; cases hty
    · cases he
  · rename_i m E el z
    obtain ⟨hu, ⟨b', z', hie⟩, _⟩ := hd
    obtain ⟨ie, hi1, hi2, _, _⟩ := hie.mk
    have hcell : P.cellsOf el = E := by simp [Program.cellsOf, hi1, hi2]
    split at he
    · rename_i m1 l m2 r
      split at he
      · rename_i k1 k2 k3 hel
        have k1 := Nat.eq_of_beq_eq_true k1
        have k2 := Nat.eq_of_beq_eq_true k2
        have k3 := Nat.eq_of_beq_eq_true k3
        subst k1 k2 k3
        cases he
        obtain ⟨vs, rfl, rx⟩ := rx
        obtain ⟨us, rfl, ry⟩ := ry
        cases rx with
        | ba hl1 =>
          cases ry with
          | ba hl2 =>
            rw [run_equalIn_array w D _ _ hu hi1, hcell]
            have hdel := (hT el).desc
            rw [hel] at hdel
            obtain ⟨D, rfl⟩ : ∃ D', D = D' + 1 := ⟨D - 1, by omega⟩
            have := bytes_eq (d := D) hdel l r [] [] _ w hl1 hl2 rfl (by simp [hi1, hi2])
            simpa [List.range_eq_range'] using this
      · cases he
    · rename_i xs ys
      split at he
      · rename_i k1 k2
        obtain ⟨vs, rfl, rx⟩ := rx
        obtain ⟨us, rfl, ry⟩ := ry
        rw [run_equalIn_array w D _ _ hu hi1, hcell, List.range_eq_range']
        exact (h2 _ _ _ _ he).2 el D E 0 m cx w vs us (by omega) rfl (by simp [hi1, hi2]) (by simpa using rx) (by simpa using ry)
      · cases he
    · cases he
  · cases he

theorem eq_all (hT : TTok P TT) : ∀ d, EqAt' P TT d ∧ EqsAt P TT d
  | 0 => ⟨fun t x y b D cx w vx vy he => by simp [eqT] at he, fun ts xs ys c hc => by simp [eqT.go] at hc⟩
  | d + 1 => ⟨eq_step hT (eq_all hT d).2, eqs_step hT (eq_all hT d).1 (eq_all hT d).2⟩
end
end Go.Fw

/- The executor is sound: tests, fields, stores. -/
namespace Go.Fw
section
variable {P : Program} {TT : Nat → TI} {n : Sz} {e : List (Nat × SV)} {h : List OB} {K : Rec → Prop}
variable {dst : Option Nat} {ty : TypeId} {pos : String} {after : Array Edge} {guard : Option (Nat × Bool)}

theorem opD_val {o : Oper} {sl : Nat → Option SV} {hp : Nat → Option OB} {x : Value} (hn : inFrame n o.dst = true) (h1 : x.oneCell' = true)
    (h : ∀ (cx : Cx) (w : World) (a : Act), Reads sl (slotsOf o.op.operands.toList) cx w a → (execOp a.eval o).run P w = .ok (.value x) w) : OpD P o n sl hp (.plain o (.v x)) :=
  opD_plain _ hn fun cx w a hr => ⟨x, h cx w a hr, .v h1⟩
theorem okT_iff {b : Bool} {K : Prop} : okT b K ↔ b = true ∧ K := by cases b <;> simp [okT, botN]

theorem s_field {t : TypeId} {x : Operand} {f : Nat} (hT : TTok P TT) (hn : inFrame n dst = true) (hx : xOp P TT n ⟨dst, .field t x f, ty, pos, after, guard⟩ e h K) : Goal P ⟨dst, .field t x f, ty, pos, after, guard⟩ n e h K := by
  obtain ⟨s, h1, hk⟩ := opd_sound hx
  generalize hti : TT t = ti at hk
  split at hk
  · rename_i fs ft z cs _
    split at hk
    · rename_i off sz u y hf hu hy
      obtain ⟨h2, hk⟩ := okT_iff.1 hk
      obtain ⟨h3, hk⟩ := okT_iff.1 hk
      have h2 := Nat.eq_of_beq_eq_true h2
      rw [nth_eq] at hy
      have hd := (hT t).desc
      rw [hti] at hd
      obtain ⟨fields, fd, i, hun, hfd, hoff, hi, hsz⟩ := fields_get hd.1 hf
      have hft := hd.2.2 (by intro e; subst e; simp at hu)
      have hty : fd.type = u := by
        have := hft.1
        unfold typesOf at this
        rw [hun] at this
        simp only at this
        split at this
        · simp only [Option.some.injEq] at this
          rw [← this] at hu
          rw [List.getElem?_map, Array.getElem?_toList, hfd] at hu
          simpa using hu
        · cases this
      refine ⟨_, opD_plain _ hn fun cx w a hr => ?_, hk⟩
      obtain ⟨vs, hv, hrc⟩ := h1.rel hr fun t ht => mem_slotsOf (by simp [Op.operands, ht])
      obtain ⟨v, hp, hv2⟩ := run_part_rel (hT u) h3 (hrc.get f y hy)
      refine ⟨v, ?_, hv2⟩
      rw [h2] at hp
      simp only [execOp, Instr.field, hv, asAgg, Sem.run_bind, run_underlying hun, Result.andThen_ok, hfd, Sem.run_pure, hoff, hty, hp]
    · exact hk.elim
  · exact hk.elim

theorem s_index {t : TypeId} {x i : Operand} (hT : TTok P TT) (hn : inFrame n dst = true) (hx : xOp P TT n ⟨dst, .index t x i, ty, pos, after, guard⟩ e h K) : Goal P ⟨dst, .index t x i, ty, pos, after, guard⟩ n e h K := by
  obtain ⟨sv, h1, hk⟩ := opd_sound hx
  obtain ⟨si, h2, hk⟩ := opd_sound hk
  obtain ⟨kd, m, rfl, hk⟩ := intOf_sound hk
  simp only [nm_eq, wr_eq] at hk
  generalize hti : TT t = ti at hk
  split at hk
  · rename_i l E el z
    obtain ⟨hm, hk⟩ := need_iff.1 hk
    obtain ⟨y, hk, hle, hy⟩ := follow_sound _ _ _ hk
    obtain ⟨h3, hk⟩ := okT_iff.1 hk
    obtain ⟨h4, hk⟩ := okT_iff.1 hk
    have hd := (hT t).desc
    rw [hti] at hd
    obtain ⟨hu, ⟨b', z', hie⟩, _⟩ := hd
    obtain ⟨ie, hi1, hi2, _, _⟩ := hie.mk
    refine ⟨_, opD_plain _ hn fun cx w a hr => ?_, hk⟩
    have e2 := relV_v (h2.rel hr fun t ht => mem_slotsOf (by simp [Op.operands, ht]))
    have hv := h1.rel hr fun t ht => mem_slotsOf (by simp [Op.operands, ht])
    obtain ⟨vs, hv, hrc⟩ : ∃ vs : List Value, a.eval x = .agg vs.toArray ∧ RelC cx w sv vs := by
      cases sv <;> simp only [isAggS, Bool.false_eq_true] at h4 <;> exact hv
    have hrc := hy cx w vs hrc
    simp only [offs, Nat.add_zero] at hrc
    obtain ⟨v, hp, hv2⟩ := run_part_rel (hT el) h3 hrc
    refine ⟨v, ?_, hv2⟩
    simp only [execOp, Instr.index, hv, e2, asIntOf, Sem.run_bind, Sem.run_pure, run_underlying hu, Result.andThen_ok, if_pos hm, run_sizeOf' hi1, hi2, hp]
  · cases sv with
    | v x0 =>
      cases x0 with
      | string d =>
        obtain ⟨hm, hk⟩ := need_iff.1 hk
        have hd := (hT t).desc
        rw [hti] at hd
        have hu := hd.2.2 _ rfl
        refine ⟨_, opD_plain _ hn fun cx w a hr => ?_, hk⟩
        have e2 := relV_v (h2.rel hr fun t ht => mem_slotsOf (by simp [Op.operands, ht]))
        have e1 := relV_v (h1.rel hr fun t ht => mem_slotsOf (by simp [Op.operands, ht]))
        refine ⟨_, ?_, RelC.v (by rfl)⟩
        have hlt : m.toNat < d.size := by omega
        have hb : d[m.toNat]? = some d[m.toNat] := getElem?_pos d m.toNat hlt
        simp only [execOp, Instr.index, e1, e2, asIntOf, Sem.run_bind, Sem.run_pure, run_underlying hu, Result.andThen_ok, if_pos hm.1, strAt, hb]
      | _ => exact hk.elim
    | _ => exact hk.elim
  · exact hk.elim

theorem s_binOp {op : BinOp} {t yt : TypeId} {x y : Operand} (hT : TTok P TT) (hn : inFrame n dst = true) (hx : xOp P TT n ⟨dst, .binOp op t x y yt, ty, pos, after, guard⟩ e h K) : Goal P ⟨dst, .binOp op t x y yt, ty, pos, after, guard⟩ n e h K := by
  obtain ⟨sx, h1, hk⟩ := opd_sound hx
  obtain ⟨sy, h2, hk⟩ := opd_sound hk
  have rx : ∀ (cx : Cx) (w : World) (a : Act), Reads (lk e) (slotsOf (Op.binOp op t x y yt).operands.toList) cx w a → RelV cx w sx (a.eval x) := fun cx w a hr =>
    h1.rel hr fun t ht => mem_slotsOf (by simp [Op.operands, ht])
  have ry : ∀ (cx : Cx) (w : World) (a : Act), Reads (lk e) (slotsOf (Op.binOp op t x y yt).operands.toList) cx w a → RelV cx w sy (a.eval y) := fun cx w a hr =>
    h2.rel hr fun t ht => mem_slotsOf (by simp [Op.operands, ht])
  clear h1 h2 hx
  have hsl : ∀ {K : Prop}, okT (isSlc (TT t)) K → (∃ el, P.underlying t = some (.slice el)) ∧ K := by
    intro K hk
    obtain ⟨h1, hk⟩ := okT_iff.1 hk
    have hd := (hT t).desc
    cases hti : TT t <;> rw [hti] at h1 hd <;> simp only [isSlc, Bool.false_eq_true] at h1
    obtain ⟨el, hu, _⟩ := hd
    exact ⟨⟨el, hu⟩, hk⟩
  have nilrun : ∀ (w : World) (ac : Act) (a0 : Option Addr) (n0 c0 l2 c2 : Nat), ac.eval x = .slice a0 n0 c0 → ac.eval y = .slice none l2 c2 → (∃ el, P.underlying t = some (.slice el)) →
      (execOp ac.eval ⟨dst, .binOp .eql t x y yt, ty, pos, after, guard⟩).run P w = .ok (.value (.bool a0.isNone)) w ∧
      (execOp ac.eval ⟨dst, .binOp .neq t x y yt, ty, pos, after, guard⟩).run P w = .ok (.value (.bool (!a0.isNone))) w := by
    intro w ac a0 n0 c0 l2 c2 e1 e2 ⟨el, hu⟩
    have : (Op.equal t (.slice a0 n0 c0) (.slice none l2 c2)).run P w = .ok a0.isNone w := by
      show (Op.equalIn (9999 + 1) t _ _).run P w = _
      exact Lib.run_equalIn_slice_nil w 9999 t el a0 n0 c0 l2 c2 hu
    constructor <;> simp [execOp, e1, e2, eqGuard, binOp, this]
  have nonnil : ∀ {cx w t0 E rows v}, RelV cx w (.fs t0 E rows) v → rows ≠ [] ∨ t0.nn = true → ∃ a0 n0 c0, v = .slice (some a0) n0 c0 := by
    intro cx w t0 E rows v hv hne
    have hv : RelC cx w (.fs t0 E rows) [v] := hv
    cases hv with
    | @fs0 _ _ _ _ a ho =>
      rcases hne with hne | hne
      · exact absurd rfl hne
      · have := ho.1 hne
        cases a with
        | none => exact absurd rfl this
        | some a => exact ⟨_, _, _, rfl⟩
    | fs => exact ⟨_, _, _, rfl⟩
  have nonnil2 : ∀ {cx w E k off m v}, RelV cx w (.ov E k off m) v → 0 < m → ∃ a0 n0 c0, v = .slice (some a0) n0 c0 := by
    intro cx w E k off m v hv hne
    have hv : RelC cx w (.ov E k off m) [v] := hv
    cases hv with
    | ov => exact ⟨_, _, _, rfl⟩
    | ov0 => omega
    | ovz => omega
  unfold execBin at hk
  split at hk
  · rename_i k a k' b _
    have ev : ∀ (w : World) (ac : Act) (v : Value), ac.eval x = .int k a → ac.eval y = .int k' b → (binOp op t (.int k a) (.int k' b)).run P w = .ok v w →
        (execOp ac.eval ⟨dst, .binOp op t x y yt, ty, pos, after, guard⟩).run P w = .ok (.value v) w := by
      intro w ac v e1 e2 hb
      simp only [execOp, e1, e2, Sem.run_bind, Sem.run_pure]
      simp [eqGuard, hb]
    unfold ibin at hk
    simp only [wr_eq] at hk
    split at hk
    · obtain ⟨hb, hk⟩ := need_iff.1 hk
      refine ⟨_, ?_, hk⟩
      refine opD_val hn rfl fun cx w ac hr => ev w ac _ (relV_v (rx cx w ac hr)) (relV_v (ry cx w ac hr)) ?_
      have : ¬ b < 0 := by omega
      simp [binOp, Op.shift, this]
    · obtain ⟨hb, hk⟩ := need_iff.1 hk
      refine ⟨_, ?_, hk⟩
      refine opD_val hn rfl fun cx w ac hr => ev w ac _ (relV_v (rx cx w ac hr)) (relV_v (ry cx w ac hr)) ?_
      have : ¬ b < 0 := by omega
      simp [binOp, Op.shift, this]
    · rename_i hs1 hs2
      split at hk
      · exact hk.elim
      · rename_i hkk
        cases kbeq_eq hkk
        split at hk <;> first
          | exact hk.elim
          | (obtain ⟨hb, hk⟩ := need_iff.1 hk
             refine ⟨_, ?_, hk⟩
             refine opD_val hn rfl fun cx w ac hr => ev w ac _ (relV_v (rx cx w ac hr)) (relV_v (ry cx w ac hr)) ?_
             simp [binOp, Op.intDiv, hb]
             done)
          | (refine ⟨_, ?_, hk⟩
             refine opD_val hn rfl fun cx w ac hr => ev w ac _ (relV_v (rx cx w ac hr)) (relV_v (ry cx w ac hr)) ?_
             simp [binOp, Op.intArith, Op.intBits, Op.intCmp]
             done)
  · rename_i a b _
    have hu : ∀ {K : Prop}, okT (isBool (TT t)) K → P.underlying t = some .bool ∧ K := by
      intro K hk
      obtain ⟨h1, hk⟩ := okT_iff.1 hk
      have hd := (hT t).desc
      cases hti : TT t <;> rw [hti] at h1 hd <;> simp only [isBool, Bool.false_eq_true] at h1
      exact ⟨hd, hk⟩
    split at hk
    · obtain ⟨hu, hk⟩ := hu hk
      refine ⟨_, ?_, hk⟩
      refine opD_val hn rfl fun cx w ac hr => ?_
      have e1 := relV_v (rx cx w ac hr)
      have e2 := relV_v (ry cx w ac hr)
      simp [execOp, e1, e2, eqGuard, binOp, Op.equal, Op.maxDepth, run_equalIn_bool w 9999 t a b hu]
    · obtain ⟨hu, hk⟩ := hu hk
      refine ⟨_, ?_, hk⟩
      refine opD_val hn rfl fun cx w ac hr => ?_
      have e1 := relV_v (rx cx w ac hr)
      have e2 := relV_v (ry cx w ac hr)
      simp [execOp, e1, e2, eqGuard, binOp, Op.equal, Op.maxDepth, run_equalIn_bool w 9999 t a b hu]
      cases a <;> cases b <;> rfl
    · exact hk.elim
  · rename_i a b _
    split at hk
    · refine ⟨_, ?_, hk⟩
      refine opD_val hn rfl fun cx w ac hr => ?_
      have e1 := relV_v (rx cx w ac hr)
      have e2 := relV_v (ry cx w ac hr)
      simp [execOp, e1, e2, eqGuard, binOp, Op.stringOp]
    · refine ⟨_, ?_, hk⟩
      refine opD_val hn rfl fun cx w ac hr => ?_
      have e1 := relV_v (rx cx w ac hr)
      have e2 := relV_v (ry cx w ac hr)
      simp [execOp, e1, e2, eqGuard, binOp, Op.stringOp]
    · exact hk.elim
  · rename_i l1 c1 l2 c2 _
    split at hk
    · obtain ⟨hu, hk⟩ := hsl hk
      refine ⟨_, ?_, hk⟩
      refine opD_val hn rfl fun cx w ac hr => ?_
      exact nilrun w ac _ _ _ _ _ (relV_v (rx cx w ac hr)) (relV_v (ry cx w ac hr)) hu |>.1
    · obtain ⟨hu, hk⟩ := hsl hk
      refine ⟨_, ?_, hk⟩
      refine opD_val hn rfl fun cx w ac hr => ?_
      exact nilrun w ac _ _ _ _ _ (relV_v (rx cx w ac hr)) (relV_v (ry cx w ac hr)) hu |>.2
    · exact hk.elim
  · rename_i t0 E rows l2 c2 _
    split at hk
    · obtain ⟨hu, hk⟩ := hsl hk
      refine ⟨_, ?_, hk⟩
      refine opD_val hn rfl fun cx w ac hr => ?_
      obtain ⟨a0, n0, c0, e1⟩ := nonnil (rx cx w ac hr) (.inr (by assumption))
      exact nilrun w ac _ _ _ _ _ e1 (relV_v (ry cx w ac hr)) hu |>.1
    · obtain ⟨hu, hk⟩ := hsl hk
      refine ⟨_, ?_, hk⟩
      refine opD_val hn rfl fun cx w ac hr => ?_
      obtain ⟨a0, n0, c0, e1⟩ := nonnil (rx cx w ac hr) (.inr (by assumption))
      exact nilrun w ac _ _ _ _ _ e1 (relV_v (ry cx w ac hr)) hu |>.2
    · obtain ⟨hu, hk⟩ := hsl hk
      obtain ⟨hne, hk⟩ := need_iff.1 hk
      refine ⟨_, ?_, hk⟩
      refine opD_val hn rfl fun cx w ac hr => ?_
      obtain ⟨a0, n0, c0, e1⟩ := nonnil (rx cx w ac hr) (.inl hne)
      exact nilrun w ac _ _ _ _ _ e1 (relV_v (ry cx w ac hr)) hu |>.1
    · obtain ⟨hu, hk⟩ := hsl hk
      obtain ⟨hne, hk⟩ := need_iff.1 hk
      refine ⟨_, ?_, hk⟩
      refine opD_val hn rfl fun cx w ac hr => ?_
      obtain ⟨a0, n0, c0, e1⟩ := nonnil (rx cx w ac hr) (.inl hne)
      exact nilrun w ac _ _ _ _ _ e1 (relV_v (ry cx w ac hr)) hu |>.2
    · exact hk.elim
  · rename_i E k off m l2 c2 _
    split at hk
    · obtain ⟨hu, hk⟩ := hsl hk
      obtain ⟨hne, hk⟩ := need_iff.1 hk
      refine ⟨_, ?_, hk⟩
      refine opD_val hn rfl fun cx w ac hr => ?_
      obtain ⟨a0, n0, c0, e1⟩ := nonnil2 (rx cx w ac hr) hne
      exact nilrun w ac _ _ _ _ _ e1 (relV_v (ry cx w ac hr)) hu |>.1
    · obtain ⟨hu, hk⟩ := hsl hk
      obtain ⟨hne, hk⟩ := need_iff.1 hk
      refine ⟨_, ?_, hk⟩
      refine opD_val hn rfl fun cx w ac hr => ?_
      obtain ⟨a0, n0, c0, e1⟩ := nonnil2 (rx cx w ac hr) hne
      exact nilrun w ac _ _ _ _ _ e1 (relV_v (ry cx w ac hr)) hu |>.2
    · exact hk.elim
  · obtain ⟨ha, hk⟩ := okT_iff.1 hk
    have main : ∀ (b : Bool) (cx : Cx) (w : World) (ac : Act), eqT TT 40 t sx sy = some b → RelV cx w sx (ac.eval x) → RelV cx w sy (ac.eval y) →
        ∃ xs ys, ac.eval x = .agg xs ∧ ac.eval y = .agg ys ∧ P.eqGuardType P.depth t = false ∧ (Op.equalIn 10000 t (.agg xs) (.agg ys)).run P w = .ok b w := by
      intro b cx w ac he hrx hry
      have heq := (eq_all hT 40).1 t sx sy b 10000 cx w _ _ he (by omega) hrx hry
      have hax : ∃ xs, ac.eval x = .agg xs := by
        cases sx <;> simp only [isAggS, Bool.false_eq_true] at ha <;> (obtain ⟨vs, hv, _⟩ := hrx; exact ⟨_, hv⟩)
      have hay : ∃ ys, ac.eval y = .agg ys := by
        have : isAggS sy = true := by
          cases hti : TT t <;> simp only [eqT, hti] at he <;> cases sx <;> simp only [isAggS, Bool.false_eq_true] at ha <;> cases sy <;> first | rfl | (simp at he; done) | (split at he <;> simp at he; done)
        cases sy <;> simp only [isAggS, Bool.false_eq_true] at this <;> (obtain ⟨vs, hv, _⟩ := hry; exact ⟨_, hv⟩)
      obtain ⟨xs, hax⟩ := hax
      obtain ⟨ys, hay⟩ := hay
      rw [hax, hay] at heq
      refine ⟨xs, ys, hax, hay, ?_, heq⟩
      have hd := (hT t).desc
      cases hti : TT t <;> rw [hti] at hd <;> simp only [eqT, hti] at he
      case int => cases sx <;> simp only [isAggS, Bool.false_eq_true] at ha <;> simp at he
      case bool => cases sx <;> simp only [isAggS, Bool.false_eq_true] at ha <;> simp at he
      case str fs ft z =>
        cases ft with
        | nil => simp at he
        | cons u ft => exact (hd.2.2 (by simp)).2.2
      case arr => exact hd.2.2
      all_goals simp at he
    split at hk
    · refine ⟨_, ?_, hk⟩
      refine opD_val hn rfl fun cx w ac hr => ?_
      obtain ⟨xs, ys, e1, e2, hg, heq⟩ := main _ cx w ac (by assumption) (rx cx w ac hr) (ry cx w ac hr)
      simp [execOp, e1, e2, run_eqGuard_agg w _ t x y xs ys hg, run_eql_struct, heq]
    · refine ⟨_, ?_, hk⟩
      refine opD_val hn rfl fun cx w ac hr => ?_
      obtain ⟨xs, ys, e1, e2, hg, heq⟩ := main _ cx w ac (by assumption) (rx cx w ac hr) (ry cx w ac hr)
      simp [execOp, e1, e2, run_eqGuard_agg w _ t x y xs ys hg, run_neq_struct, heq]
    · exact hk.elim
end
end Go.Fw

/- The executor is sound: stores, composite values, new slices. -/
namespace Go.Fw
section
variable {P : Program} {TT : Nat → TI} {n : Sz} {e : List (Nat × SV)} {h : List OB} {K : Rec → Prop}
variable {dst : Option Nat} {ty : TypeId} {pos : String} {after : Array Edge} {guard : Option (Nat × Bool)}

/-- An operation that writes one owned block. -/
theorem opD_put {o : Oper} {sl : Nat → Option SV} {hp : Nat → Option OB} (k : Nat) (ob ob' : OB) (hn : inFrame n o.dst = true) (hk : hp k = some ob) (hg : ob ≠ .gone) (hg' : ob' ≠ .gone)
    (h : ∀ (cx : Cx) (w : World) (a : Act), Reads sl (slotsOf o.op.operands.toList) cx w a → (∀ b C, cx.bl k = some (.at b C) → cx.O b ∧ Holds cx w b C ob) →
      ∃ b C cs, cx.bl k = some (.at b C) ∧ (execOp a.eval o).run P w = .ok .skip (w.setRow b cs) ∧ (Ext cx w cx (w.setRow b cs) → Holds cx (w.setRow b cs) b C ob')) : OpD P o n sl hp (.put o k ob') := by
  intro sl' hp' ha B cx a w Q K hB hs hK
  simp only [Agree, Rec.put, Bool.false_eq_true, if_false] at ha
  have hk' : hp' k = some ob := by rw [ha.2 k (by simp), hk]
  obtain ⟨b, C, cs, h1, h2, h3⟩ := h cx w a (.of_sat hs ha.1) (fun b C hb => live_at hs.mem hk' hb hg)
  have hO := (live_at hs.mem hk' h1 hg).1
  refine wp_skip_op h2 (hK cx _ _ ?_)
  subst hB
  exact (hs.later (ext_set cx w b cs hO) (mem_set hs.mem cs hk' hg hg' h1 h3) (fr_set B.keep cx w k b C cs h1)).put (s := .top) trivial hn

theorem updHp_snoc : ∀ (l : List (Nat × OB)) (hp : Nat → Option OB) (k : Nat) (ob : OB), updHp hp (app l [(k, ob)]) = fun i => if i = k then some ob else updHp hp l i
  | [], _, _, _ => rfl
  | (j, x) :: l, hp, k, ob => updHp_snoc l _ k ob
theorem cold_not {n0 : Nat} {hp : Nat → Option OB} {ks : List Nat} (h : Cold n0 hp ks) {k : Nat} (hk : hp k = none) : k ∉ ks := fun hm => by
  obtain ⟨_, ob, h1, _⟩ := h k hm
  rw [h1] at hk; cases hk
theorem opD_newF {o : Oper} {sl : Nat → Option SV} {hp : Nat → Option OB} (k : Nat) (ob : OB) (s : SV) (ks : List Nat) (hn : inFrame n o.dst = true) (hk : hp k = none) (hc : Cold n.n0 hp ks)
    (h : ∀ (cx : Cx) (w : World) (a : Act) (hp' : Nat → Option OB), (∀ j ∈ ks, hp' j = hp j) → Mem cx w hp' → Reads sl (slotsOf o.op.operands.toList) cx w a → ∃ v O C, (execOp a.eval o).run P w = .ok (.value v) (w.alloc O) ∧
      (∀ cx', Ext (cx.minus ks) w cx' (w.alloc O) → Holds cx' (w.alloc O) w.heap.size C ob) ∧
      (∀ cx', Ext (cx.minus ks) w cx' (w.alloc O) → cx'.bl k = some (.at w.heap.size C) → RelV cx' (w.alloc O) s v)) (hg : ob ≠ .gone := by simp) : OpD P o n sl hp (.newF o k ob s ks) := by
  intro sl' hp' ha B cx a w Q K hB hs hK
  simp only [Agree, Rec.newF, Bool.false_eq_true, if_false] at ha
  have hk' : hp' k = none := by rw [ha.2 k (by simp), hk]
  have hks : ∀ j ∈ ks, hp' j = hp j := fun j hj => ha.2 j (List.mem_cons_of_mem _ hj)
  have hc' : Cold n.n0 hp' ks := fun j hj => by rw [hks j hj]; exact hc j hj
  have hkk := cold_not hc' hk'
  obtain ⟨v, O, C, h1, h2, h3⟩ := h cx w a hp' hks hs.mem (.of_sat hs ha.1)
  subst hB
  have hs1 := hs.minus hc'
  have hbl : (cx.minus ks).bl k = none := hs.mem.dom k hk'
  have hk1 : updHp hp' (goneL ks) k = none := by rw [goneL_get, if_neg hkk, hk']
  have e := ext_alloc (cx.minus ks) w O k C hbl
  have hnk : ¬ B.keep k := fun hk2 => by
    have := hs.fr.keep k hk2
    rw [show cx.bl k = none from hbl] at this
    exact B.kp k hk2 this.symm
  have hz : ∃ c t, O = .cells c t (0, 0) := by
    have h4 := h2 _ e
    cases ob with
    | gone => exact absurd rfl hg
    | cells s =>
      obtain ⟨vs, T, h5, _⟩ := h4
      rw [heap_alloc_new] at h5
      exact ⟨_, _, Option.some.inj h5⟩
    | arr x E rows =>
      obtain ⟨vs, T, h5, _⟩ := h4
      rw [heap_alloc_new] at h5
      exact ⟨_, _, Option.some.inj h5⟩
  refine wp_value h1 (hK ((cx.minus ks).with k (.at w.heap.size C) (fun b => (cx.minus ks).O b ∨ b = w.heap.size)) _ _ ?_)
  simp only [Rec.newF, updHp_snoc]
  exact (hs1.later e (mem_alloc hs1.mem O k C hk1 ob h2) (fr_alloc B.keep (cx.minus ks) w O k C hnk hz)).put (h3 _ e (by simp [Cx.with])) hn
/-- An operation that lets owned arrays go. -/
theorem opD_plainF {o : Oper} {sl : Nat → Option SV} {hp : Nat → Option OB} (s : SV) (ks : List Nat) (hn : inFrame n o.dst = true) (hc : Cold n.n0 hp ks)
    (h : ∀ (cx : Cx) (w : World) (a : Act) (hp' : Nat → Option OB), (∀ j ∈ ks, hp' j = hp j) → Mem cx w hp' → Reads sl (slotsOf o.op.operands.toList) cx w a → ∃ v, (execOp a.eval o).run P w = .ok (.value v) w ∧ RelV (cx.minus ks) w s v) :
    OpD P o n sl hp ⟨slotsOf o.op.operands.toList, ks, dst1 o.dst s, goneL ks, false⟩ := by
  intro sl' hp' ha B cx a w Q K hB hs hK
  simp only [Agree, Bool.false_eq_true, if_false] at ha
  have hks : ∀ j ∈ ks, hp' j = hp j := fun j hj => ha.2 j hj
  have hc' : Cold n.n0 hp' ks := fun j hj => by rw [hks j hj]; exact hc j hj
  obtain ⟨v, h1, h2⟩ := h cx w a hp' hks hs.mem (.of_sat hs ha.1)
  subst hB
  exact wp_value h1 (hK (cx.minus ks) _ _ ((hs.minus hc').put h2 hn))
/-- An operation that writes one owned block and lets owned arrays go. -/
theorem opD_putF {o : Oper} {sl : Nat → Option SV} {hp : Nat → Option OB} (k : Nat) (ob ob' : OB) (ks : List Nat) (hn : inFrame n o.dst = true) (hk : hp k = some ob) (hg : ob ≠ .gone) (hg' : ob' ≠ .gone) (hkk : k ∉ ks) (hc : Cold n.n0 hp ks)
    (h : ∀ (cx : Cx) (w : World) (a : Act) (hp' : Nat → Option OB), (∀ j ∈ ks, hp' j = hp j) → Mem cx w hp' → Reads sl (slotsOf o.op.operands.toList) cx w a → (∀ b C, cx.bl k = some (.at b C) → cx.O b ∧ Holds cx w b C ob) →
      ∃ b C cs, cx.bl k = some (.at b C) ∧ (execOp a.eval o).run P w = .ok .skip (w.setRow b cs) ∧ (Ext (cx.minus ks) w (cx.minus ks) (w.setRow b cs) → Holds (cx.minus ks) (w.setRow b cs) b C ob')) : OpD P o n sl hp (.putF o k ob' ks) := by
  intro sl' hp' ha B cx a w Q K hB hs hK
  simp only [Agree, Rec.putF, Bool.false_eq_true, if_false] at ha
  have hk' : hp' k = some ob := by rw [ha.2 k (by simp), hk]
  have hks : ∀ j ∈ ks, hp' j = hp j := fun j hj => ha.2 j (List.mem_cons_of_mem _ hj)
  have hc' : Cold n.n0 hp' ks := fun j hj => by rw [hks j hj]; exact hc j hj
  obtain ⟨b, C, cs, h1, h2, h3⟩ := h cx w a hp' hks hs.mem (.of_sat hs ha.1) (fun b C hb => live_at hs.mem hk' hb hg)
  subst hB
  have hs1 := hs.minus hc'
  have hk1 : updHp hp' (goneL ks) k = some ob := by rw [goneL_get, if_neg hkk, hk']
  have h1' : (cx.minus ks).bl k = some (.at b C) := h1
  have hO := (live_at hs1.mem hk1 h1' hg).1
  refine wp_skip_op h2 (hK (cx.minus ks) _ _ ?_)
  simp only [Rec.putF, updHp_snoc]
  exact (hs1.later (ext_set (cx.minus ks) w b cs hO) (mem_set hs1.mem cs hk1 hg hg' h1' h3) (fr_set B.keep (cx.minus ks) w k b C cs h1')).put (s := .top) trivial hn

mutual
theorem noRef_bare {cx w} : ∀ {s vs}, RelC cx w s vs → noRef s = true → RelC cx.bare w s vs
  | .v _, _, h, _ => by cases h with | v h => exact .v h
  | .ba .., _, h, _ => by cases h with | ba h => exact .ba h
  | .fs .., _, h, _ => by
    cases h with
    | fs0 h => exact .fs0 h
    | fs f a1 a2 a3 a4 a5 a6 a7 => exact .fs f a1 a2 a3 a4 a5 a6 a7
  | .pf .., _, h, _ => by
    cases h with
    | pf h =>
      cases h with
      | fs f a1 a2 a3 a4 a5 a6 a7 => exact .pf (.fs f a1 a2 a3 a4 a5 a6 a7)
      | fs0 h => exact .pf (.fs0 h)
  | .agg cs, _, h, hn => noRefs_bare (cs := cs) h hn
  | .clo f cs, _, h, hn => by
    cases h with
    | clo vs hl hr => exact .clo vs hl fun i s x h1 h2 => noRef_cap (cs := cs) (by simpa [noRef] using hn) i s x h1 (hr i s x h1 h2)
  | .ov .., _, _, hn => by simp [noRef] at hn
  | .sb .., _, _, hn => by simp [noRef] at hn
  | .pb .., _, _, hn => by simp [noRef] at hn
  | .pe .., _, _, hn => by simp [noRef] at hn
  | .tup .., _, h, _ => by cases h
  | .top, _, _, hn => by simp [noRef] at hn
theorem noRefs_bare {cx w} : ∀ {cs vs}, RelC cx w (.agg cs) vs → noRefs cs = true → RelC cx.bare w (.agg cs) vs
  | [], _, h, _ => by cases h with | nil => exact .nil
  | s :: r, _, h, hn => by
    cases h with
    | cons h1 h2 =>
      simp only [noRefs] at hn
      split at hn
      · exact .cons (noRef_bare h1 (by assumption)) (noRefs_bare h2 hn)
      · cases hn
theorem noRef_cap {cx w} : ∀ {cs}, noRefs cs = true → ∀ (i : Nat) s x, cs[i]? = some s → RelC cx w s [x] → RelC cx.bare w s [x]
  | [], _, i, s, x, h, _ => by simp at h
  | s0 :: r, hn, i, s, x, h, hr => by
    simp only [noRefs] at hn
    split at hn
    · cases i with
      | zero => simp at h; subst h; exact noRef_bare hr (by assumption)
      | succ i => exact noRef_cap (cs := r) hn i s x (by simpa using h) hr
    · cases hn
end

theorem splice_get {α : Type} (vs us : List α) (off : Nat) (hle : off + us.length ≤ vs.length) (m : Nat) :
    (vs.take off ++ us ++ vs.drop (off + us.length))[m]? = if off ≤ m ∧ m < off + us.length then us[m - off]? else vs[m]? := by
  rw [List.append_assoc, List.getElem?_append]
  have hl : (vs.take off).length = off := by simp; omega
  rw [hl]
  by_cases h1 : m < off
  · rw [if_pos h1, if_neg (by omega)]
    simp [h1]
  · rw [if_neg h1, List.getElem?_append]
    by_cases h2 : m - off < us.length
    · rw [if_pos h2, if_pos (by omega)]
    · rw [if_neg h2, if_neg (by omega), List.getElem?_drop]
      congr 1; omega

theorem s_store {t : TypeId} {x y : Operand} (hT : TTok P TT) (hn : inFrame n dst = true) (hx : xOp P TT n ⟨dst, .store t x y, ty, pos, after, guard⟩ e h K) : Goal P ⟨dst, .store t x y, ty, pos, after, guard⟩ n e h K := by
  obtain ⟨sx, h1, hk⟩ := opd_sound hx
  obtain ⟨sy, h2, hk⟩ := opd_sound hk
  have rx : ∀ (cx : Cx) (w : World) (a : Act), Reads (lk e) (slotsOf (Op.store t x y).operands.toList) cx w a → RelV cx w sx (a.eval x) := fun cx w a hr =>
    h1.rel hr fun t ht => mem_slotsOf (by simp [Op.operands, ht])
  have ry : ∀ (cx : Cx) (w : World) (a : Act), Reads (lk e) (slotsOf (Op.store t x y).operands.toList) cx w a → RelV cx w sy (a.eval y) := fun cx w a hr =>
    h2.rel hr fun t ht => mem_slotsOf (by simp [Op.operands, ht])
  clear h1 h2 hx
  unfold execStore at hk
  simp only [nm_eq] at hk
  split at hk
  · exact hk.elim
  · rename_i hty
    split at hk
    · rename_i k p _
      split at hk
      · rename_i s hs
        obtain ⟨z, hk, hwz, hle, hz⟩ := place_sound _ _ _ _ hk
        refine ⟨_, opD_put k (.cells s) (.cells z) hn hs (by simp) (by simp) fun cx w a hr hl => ?_, hk⟩
        have hv : RelC cx w (.pb k p) [a.eval x] := rx cx w a hr
        generalize hv0 : a.eval x = v0 at hv
        cases hv with
        | pb hb =>
          rename_i b C
          obtain ⟨hO, vs, T, hh, hrc⟩ := hl b C hb
          have hlen := hrc.width
          obtain ⟨us, hu, hrun⟩ := run_store_rel (hT t) hty (ry cx w a hr) hh (off := offs p) (by omega)
          refine ⟨b, C, (vs.take (offs p) ++ us ++ vs.drop (offs p + us.length)).toArray, hb, by simp only [execOp, Instr.storeAt, Instr.sureAddr, hv0, Sem.run_bind, Sem.run_pure, Result.andThen_ok, hrun], fun he => ?_⟩
          exact ⟨_, T, setRow_heap w b _ _ T _ hh, (hz cx w vs us hrc hu).mono he⟩
      · exact hk.elim
    · rename_i E k i p _
      split at hk
      · rename_i xr E' rows hs
        obtain ⟨y', ks, hk9, hcold, hfz⟩ := frz_sound hk
        clear hk
        split at hk9
        · rename_i hE hnr
          rw [Bool.and_eq_true] at hE hnr
          obtain ⟨hE, hkk⟩ := hE
          obtain ⟨hnr, hty'⟩ := hnr
          have hE := Nat.eq_of_beq_eq_true hE
          subst hE
          have hkk : k ∉ ks := fun hm => by
            simp only [Bool.not_eq_true', List.any_eq_false] at hkk
            have := hkk k hm
            simp at this
          obtain ⟨s', hs', hk⟩ := elem_iff.1 hk9
          obtain ⟨z, hk, hwz, hle, hz⟩ := place_sound _ _ _ _ hk
          refine ⟨_, opD_putF k (.arr _ E rows) (.arr _ E (rows.set i z)) ks hn hs (by simp) (by simp) hkk hcold fun cx w a hp' hh hm hr hl => ?_, hk⟩
          have hv : RelC cx w (.pe E k i p) [a.eval x] := rx cx w a hr
          have hyv := hfz cx w _ hp' ks hh (fun _ h => h) hm (ry cx w a hr)
          generalize hv0 : a.eval x = v0 at hv
          cases hv with
          | pe hb =>
            rename_i b C
            obtain ⟨hO, vs, T, hh, hlen, hC, hrows⟩ := hl b C hb
            have hlt : i < rows.length := (List.getElem?_eq_some_iff.1 hs').1
            have hseg := hrows i s' hs'
            have hw := hseg.width
            have hC1 := hC.le
            have hiC : (i + 1) * E ≤ C * E := Nat.mul_le_mul_right E (by omega)
            rw [Nat.add_mul, Nat.one_mul] at hiC
            have hwE : wd s' = E := by rw [← hw]; simp; omega
            obtain ⟨us, hu, hrun⟩ := run_store_rel (hT t) hty' hyv hh (off := i * E + offs p) (by omega)
            have hul := hu.width
            refine ⟨b, C, (vs.take (i * E + offs p) ++ us ++ vs.drop (i * E + offs p + us.length)).toArray, hb, by simp only [execOp, Instr.storeAt, Instr.sureAddr, hv0, Sem.run_bind, Sem.run_pure, Result.andThen_ok, hrun], fun he => ?_⟩
            refine ⟨_, T, setRow_heap w b _ _ T _ hh, by simp; omega, ⟨by simpa using hC.le, hC.cap, splice_ones hC.ones hu.ones⟩, fun j u hj => ?_⟩
            have key : ∀ m, (vs.take (i * E + offs p) ++ us ++ vs.drop (i * E + offs p + us.length))[m]? = if i * E + offs p ≤ m ∧ m < i * E + offs p + us.length then us[m - (i * E + offs p)]? else vs[m]? :=
              splice_get vs us (i * E + offs p) (by omega)
            by_cases hji : i = j
            · subst hji
              have : u = z := by simpa [List.getElem?_set, hlt] using hj.symm
              subst this
              have hz' := hz (cx.minus ks).bare w _ us (hseg.mono (ext_minus cx w ks).bare) (noRef_bare hu hnr)
              have e1 : ((vs.take (i * E + offs p) ++ us ++ vs.drop (i * E + offs p + us.length)).drop (i * E)).take E =
                  ((vs.drop (i * E)).take E).take (offs p) ++ us ++ ((vs.drop (i * E)).take E).drop (offs p + us.length) := by
                apply List.ext_getElem?
                intro m
                rw [splice_get ((vs.drop (i * E)).take E) us (offs p) (by simp; omega)]
                rw [List.getElem?_take, List.getElem?_drop, key]
                by_cases hm : m < E
                · simp only [hm, if_true, List.getElem?_take, List.getElem?_drop]
                  by_cases h3 : offs p ≤ m ∧ m < offs p + us.length
                  · rw [if_pos (by omega), if_pos h3]; congr 1; omega
                  · rw [if_neg (by omega), if_neg h3]
                · rw [if_neg hm, if_neg (by omega), List.getElem?_take, if_neg hm]
              rw [e1]
              exact hz'.mono he.bare
            · have hj' : rows[j]? = some u := by simpa [List.getElem?_set, hji] using hj
              have hjl : j < rows.length := (List.getElem?_eq_some_iff.1 hj').1
              have e1 : ((vs.take (i * E + offs p) ++ us ++ vs.drop (i * E + offs p + us.length)).drop (j * E)).take E = (vs.drop (j * E)).take E := by
                apply List.ext_getElem?
                intro m
                rw [List.getElem?_take, List.getElem?_take, List.getElem?_drop, List.getElem?_drop, key]
                by_cases hm : m < E
                · simp only [hm, if_true]
                  rw [if_neg]
                  intro ⟨g1, g2⟩
                  rcases Nat.lt_or_gt_of_ne hji with hlt' | hlt'
                  · have := Nat.mul_le_mul_right E (show i + 1 ≤ j from hlt')
                    rw [Nat.add_mul] at this; omega
                  · have := Nat.mul_le_mul_right E (show j + 1 ≤ i from hlt')
                    rw [Nat.add_mul] at this; omega
                · simp [hm]
              rw [e1]
              exact ((hrows j u hj').mono (ext_minus cx w ks).bare).mono he.bare
        · exact hk9.elim
      · exact hk.elim
    · exact hk.elim
end
end Go.Fw

/- The executor is sound: composite values. -/
namespace Go.Fw
section
variable {P : Program} {TT : Nat → TI} {n : Sz} {e : List (Nat × SV)} {h : List OB} {K : Rec → Prop}
variable {dst : Option Nat} {ty : TypeId} {pos : String} {after : Array Edge} {guard : Option (Nat × Bool)}

inductive PartsR (sl : Nat → Option SV) : List (Nat × Operand) → List (Nat × SV) → Prop where
  | nil : PartsR sl [] []
  | cons {i x s r l} : OpdR sl x s → PartsR sl r l → PartsR sl ((i, x) :: r) ((i, s) :: l)
inductive RelPs (cx : Cx) (w : World) : List (Nat × SV) → List (Nat × Value) → Prop where
  | nil : RelPs cx w [] []
  | cons {i s v l r} : RelV cx w s v → RelPs cx w l r → RelPs cx w ((i, s) :: l) ((i, v) :: r)

theorem partsK_sound {e : List (Nat × SV)} : ∀ {ps : List (Nat × Operand)} {K : List (Nat × SV) → Prop}, partsK e ps K → ∃ l, PartsR (lk e) ps l ∧ K l
  | [], _, h => ⟨[], .nil, h⟩
  | (i, x) :: r, K, h => by
    obtain ⟨s, h1, h2⟩ := opd_sound h
    obtain ⟨l, h3, h4⟩ := partsK_sound h2
    exact ⟨_, .cons h1 h3, h4⟩
theorem PartsR.rel {sl ps l ts cx w a} (h : PartsR sl ps l) (hr : Reads sl ts cx w a) (hx : ∀ t, (∃ i, (i, Operand.tmp t) ∈ ps) → t ∈ ts) : RelPs cx w l (ps.map fun (i, x) => (i, a.eval x)) := by
  induction h with
  | nil => exact .nil
  | cons h1 _ ih => exact .cons (h1.rel hr fun t ht => hx t ⟨_, by rw [← ht]; exact List.mem_cons_self⟩) (ih fun t ⟨i, hi⟩ => hx t ⟨i, List.mem_cons_of_mem _ hi⟩)

theorem fold_set : ∀ (us : List Value) (k off : Nat) (cs : Array Value), off + k + us.length ≤ cs.size →
    (us.zipIdx k).foldl (fun cs x => cs.setIfInBounds (off + x.2) x.1) cs = (cs.toList.take (off + k) ++ us ++ cs.toList.drop (off + k + us.length)).toArray
  | [], k, off, cs, _ => by simp
  | u :: us, k, off, cs, hl => by
    have ih := fold_set us (k + 1) off (cs.setIfInBounds (off + k) u) (by simp at hl ⊢; omega)
    simp only [List.zipIdx_cons, List.foldl_cons, ih]
    apply Array.ext'
    simp only [List.toList_toArray]
    apply List.ext_getElem?
    intro m
    simp at hl
    rw [splice_get _ _ _ (by simp; omega), splice_get _ _ _ (by simp; omega)]
    simp only [Array.toList_setIfInBounds, List.getElem?_set, List.length_cons]
    by_cases h1 : off + k = m
    · subst h1
      rw [if_neg (by omega), if_pos (by omega)]
      simp; omega
    · by_cases h2 : off + (k + 1) ≤ m ∧ m < off + (k + 1) + us.length
      · rw [if_pos h2, if_pos (by omega)]
        rw [show m - (off + k) = (m - (off + (k + 1))) + 1 by omega]
        simp
      · rw [if_neg h2, if_neg h1, if_neg (by omega)]

theorem fill_step (place : Nat → Option (Nat × Nat)) (cells : List Value) (i : Nat) (v : Value) (rest : List (Nat × Value)) (off : Nat) (us : List Value) (hp : place i = some (off, us.length))
    (hv : v.cells = us.toArray) (hle : off + us.length ≤ cells.length) :
    Instr.fill place cells.toArray ((i, v) :: rest) = Instr.fill place (cells.take off ++ us ++ cells.drop (off + us.length)).toArray rest := by
  have hf := fold_set us 0 off cells.toArray (by simpa using hle)
  simp only [Nat.add_zero] at hf
  simp only [Instr.fill, hp, hv, List.size_toArray, ne_eq, not_true_eq_false, decide_false, Bool.false_or, decide_eq_true_eq]
  rw [if_neg (by omega)]
  congr 1
  rw [← hf]
  rw [← Array.foldl_toList]
  simp

theorem relV_us {cx w s v} (h : RelV cx w s v) (hs : notTop s = true) : ∃ us : List Value, v.cells = us.toArray ∧ RelC cx w s us :=
  h.cells (by intro e; subst e; simp [notTop] at hs) (by intro l e; subst e; simp [notTop] at hs)

theorem fillS_sound (fs : List (Nat × Nat)) : ∀ (ps : List (Nat × SV)) (cs : List SV) (K : List SV → Prop), fillS fs ps cs K → layout cs 0 = fs →
    ∃ cs', K cs' ∧ ∀ cx w (rs : List (Nat × Value)) (vs : List Value), RelPs cx w ps rs → RelC cx w (.agg cs) vs →
      ∃ vs', Instr.fill (fun i => fs[i]?) vs.toArray rs = some vs'.toArray ∧ RelC cx w (.agg cs') vs'
  | [], cs, K, h, _ => ⟨cs, h, fun cx w rs vs hr hv => by cases hr; exact ⟨vs, rfl, hv⟩⟩
  | (i, s) :: ps, cs, K, h, hl => by
    simp only [fillS] at h
    split at h
    · rename_i off m hf
      split at h
      · rename_i hb
        rw [Bool.and_eq_true] at hb
        have hw := Nat.eq_of_beq_eq_true hb.1
        have hnt := hb.2
        have hci : ∃ c, cs[i]? = some c ∧ off = wds (cs.take i) ∧ wd c = wd s := by
          cases hc : cs[i]? with
          | none =>
            rw [← hl] at hf
            have := layout_len cs 0
            rw [List.getElem?_eq_none_iff] at hc
            rw [List.getElem?_eq_none (by omega)] at hf
            cases hf
          | some c =>
            have := layout_get cs 0 i c hc
            rw [hl, hf] at this
            simp at this
            exact ⟨c, rfl, this.1, by omega⟩
        obtain ⟨c, hc, hoff, hcw⟩ := hci
        rw [setLK_eq, setL_eq] at h
        obtain ⟨cs', hk, hd⟩ := fillS_sound fs ps (cs.set i s) K h (by
          rw [← hl, layout_layW, layout_layW, List.map_set]
          congr 1
          apply List.ext_getElem?
          intro j
          rw [List.getElem?_set]
          split
          · rename_i e; subst e
            have hlt : i < cs.length := (List.getElem?_eq_some_iff.1 hc).1
            simp [hlt]
            rw [List.getElem?_eq_getElem hlt] at hc
            cases hc; exact hcw.symm
          · rfl)
        refine ⟨cs', hk, fun cx w rs vs hr hv => ?_⟩
        cases hr with
        | cons h1 h2 =>
          rename_i v r
          obtain ⟨us, hu, hrc⟩ := relV_us h1 hnt
          have hul := hrc.width
          have hvl := hv.width
          have hge := wds_get cs i c hc
          simp only [wd] at hvl
          have hset := hv.set i c s us hc hrc (by omega)
          obtain ⟨vs', e1, e2⟩ := hd cx w r _ h2 hset
          refine ⟨vs', ?_, e2⟩
          rw [fill_step _ vs i v r off us (by rw [hf, ← hw, hul]) hu (by omega), hoff]
          exact e1
      · exact h.elim
    · exact h.elim

theorem fillA_sound (E : Nat) : ∀ (ps : List (Nat × SV)) (cs : List SV) (K : List SV → Prop), fillA E ps cs K → (∀ c ∈ cs, wd c = E) →
    ∃ cs', K cs' ∧ cs'.length = cs.length ∧ (∀ c ∈ cs', wd c = E) ∧ ∀ cx w (rs : List (Nat × Value)) (vs : List Value), RelPs cx w ps rs → RelC cx w (.agg cs) vs →
      ∃ vs', Instr.fill (fun i => some (i * E, E)) vs.toArray rs = some vs'.toArray ∧ RelC cx w (.agg cs') vs'
  | [], cs, K, h, hE => ⟨cs, h, rfl, hE, fun cx w rs vs hr hv => by cases hr; exact ⟨vs, rfl, hv⟩⟩
  | (i, s) :: ps, cs, K, h, hE => by
    simp only [fillA] at h
    split at h
    · rename_i hb hlt
      rw [Bool.and_eq_true] at hb
      have hw := Nat.eq_of_beq_eq_true hb.1
      have hnt := hb.2
      have hlt : i < cs.length := by rw [len_eq] at hlt; simpa using hlt
      rw [setLK_eq, setL_eq] at h
      have hE' : ∀ c ∈ cs.set i s, wd c = E := by
        intro c hc
        rcases List.mem_or_eq_of_mem_set hc with hc | rfl
        · exact hE c hc
        · exact hw
      obtain ⟨cs', hk, hl', he', hd⟩ := fillA_sound E ps (cs.set i s) K h hE'
      refine ⟨cs', hk, by simpa using hl', he', fun cx w rs vs hr hv => ?_⟩
      cases hr with
      | cons h1 h2 =>
        rename_i v r
        obtain ⟨us, hu, hrc⟩ := relV_us h1 hnt
        have hul := hrc.width
        have hvl := hv.width
        have hci := List.getElem?_eq_getElem hlt
        have hge := wds_get cs i _ hci
        have hoff := wds_all E cs (by simpa [Nat.beq_eq] using hE) i (by omega)
        simp only [wd] at hvl
        have hcw := hE _ (List.getElem_mem hlt)
        have hset := hv.set i _ s us hci hrc (by omega)
        obtain ⟨vs', e1, e2⟩ := hd cx w r _ h2 hset
        refine ⟨vs', ?_, e2⟩
        rw [fill_step _ vs i v r (i * E) us (by rw [hul, hw]) hu (by omega), ← hoff]
        exact e1
    · exact h.elim

theorem fillB_sound (m : Nat) : ∀ (ps : List (Nat × SV)) (l : List Int) (K : List Int → Prop), fillB m ps l K → l.length = m →
    ∃ l', K l' ∧ l'.length = m ∧ ∀ cx w (rs : List (Nat × Value)), RelPs cx w ps rs →
      Instr.fill (fun i => some (i * 1, 1)) (l.map fun x => Value.int .u8 x).toArray rs = some (l'.map fun x => Value.int .u8 x).toArray
  | [], l, K, h, hl => ⟨l, h, hl, fun cx w rs hr => by cases hr; rfl⟩
  | (i, s) :: ps, l, K, h, hl => by
    simp only [fillB] at h
    split at h
    · rename_i x hlt
      have hlt : i < m := by simpa using hlt
      obtain ⟨l', hk, hl', hd⟩ := fillB_sound m ps (l.set i x) K h (by simpa using hl)
      refine ⟨l', hk, hl', fun cx w rs hr => ?_⟩
      cases hr with
      | cons h1 h2 =>
        rename_i v r
        have := relV_v h1
        subst this
        rw [fill_step _ (l.map fun x => Value.int .u8 x) i (.int .u8 x) r (i * 1) [.int .u8 x] (by rfl) rfl (by simp; omega)]
        rw [← hd cx w r h2]
        congr 2
        rw [List.map_set, List.set_eq_take_append_cons_drop, if_pos (by simp; omega)]
        simp
    · exact h.elim

theorem places_eq {t : TypeId} {fs : List (Nat × Nat)} (hs : structOf P t = some (fs.map some)) : ∃ fields, P.underlying t = some (.struct fields) ∧
    ∀ w : World, (fields.mapM fun f => (do pure (f.offset, ← sizeOf f.type) : Sem (Nat × Nat))).run P w = .ok fs.toArray w := by
  unfold structOf at hs
  split at hs
  · rename_i fields hu
    refine ⟨fields, hu, fun w => ?_⟩
    simp only [Option.some.injEq] at hs
    rw [← Array.toArray_toList (xs := fields), List.mapM_toArray]
    generalize fields.toList = l at hs
    have : ∀ (l : List Field) (fs : List (Nat × Nat)), (l.map fun f => (P.info? f.type).map fun i => (f.offset, i.size)) = fs.map some →
        (l.mapM fun f => (do pure (f.offset, ← sizeOf f.type) : Sem (Nat × Nat))).run P w = .ok fs w := by
      intro l
      induction l with
      | nil => intro fs h; cases fs <;> simp at h; simp
      | cons f l ih =>
        intro fs h
        cases fs with
        | nil => simp at h
        | cons q fs =>
          simp only [List.map_cons, List.cons.injEq] at h
          cases hi : P.info? f.type with
          | none => rw [hi] at h; cases h.1
          | some i =>
            rw [hi] at h
            simp only [Option.map_some, Option.some.injEq] at h
            simp only [List.mapM_cons, Sem.run_bind, run_sizeOf' hi, Result.andThen_ok, Sem.run_pure, ih fs h.2, h.1]
    simp only [Sem.run_map, this l fs hs, Result.andThen_ok]
  · cases hs

theorem relPs_ofEval {sl : Nat → Option SV} {parts : Array (Nat × Operand)} {ps : List (Nat × SV)} {cx : Cx} {w : World} {a : Act} (hp : PartsR sl parts.toList ps)
    (hr : Reads sl (slotsOf (parts.toList.map (·.2))) cx w a) : RelPs cx w ps ((parts.map fun (i, x) => (i, a.eval x)).toList) := by
  rw [Array.toList_map]
  refine hp.rel hr fun t ⟨i, hi⟩ => mem_slotsOf ?_
  exact List.mem_map.2 ⟨_, hi, rfl⟩

theorem s_build {t : TypeId} {parts : Array (Nat × Operand)} (hT : TTok P TT) (hn : inFrame n dst = true) (hx : xOp P TT n ⟨dst, .build t parts, ty, pos, after, guard⟩ e h K) : Goal P ⟨dst, .build t parts, ty, pos, after, guard⟩ n e h K := by
  obtain ⟨ps, hp, hk⟩ := partsK_sound hx
  generalize hti : TT t = ti at hk
  have hd := (hT t).desc
  obtain ⟨hinfo, hz⟩ := (hT t).info (by rw [hti]; rintro rfl; exact hk)
  rw [hti] at hd hinfo hz
  obtain ⟨by_, hi⟩ := hinfo
  obtain ⟨i, hi1, _, _, hi4⟩ := hi.mk
  have hops : ∀ (cx : Cx) (w : World) (a : Act), Reads (lk e) (slotsOf (Op.build t parts).operands.toList) cx w a → RelPs cx w ps ((parts.map fun (i, x) => (i, a.eval x)).toList) :=
    fun cx w a hr => relPs_ofEval hp (by simpa [Op.operands] using hr)
  split at hk
  · rename_i fs ft z _
    obtain ⟨hs, ⟨cs, hzc, hfs⟩, _⟩ := hd
    cases hzc
    obtain ⟨cs', hk, hf⟩ := fillS_sound fs ps z _ hk hfs.symm
    refine ⟨_, opD_plain _ hn fun cx w a hr => ?_, hk⟩
    obtain ⟨vs', e1, e2⟩ := hf cx w _ _ (hops cx w a hr) (okz_rel hz)
    refine ⟨.agg vs'.toArray, ?_, ⟨vs', rfl, e2⟩⟩
    obtain ⟨fields, hu, hm⟩ := places_eq hs
    simp only [execOp, Instr.build, Sem.run_bind, run_zeroValue' hi1 hi4, Result.andThen_ok, run_underlying hu, hm w, TI.zero, toVal, Value.cells]
    simp only [flat] at e1
    have e1' : Instr.fill (fun x => fs.toArray[x]?) (flats z).toArray (parts.map fun (i, x) => (i, a.eval x)).toList = some vs'.toArray := by
      rw [← e1]; congr 1; funext x; simp
    rw [e1']
    rfl
  · rename_i l E el z _
    obtain ⟨hu, ⟨b', z', hie⟩, _⟩ := hd
    obtain ⟨ie, hj1, hj2, _, _⟩ := hie.mk
    split at hk
    · rename_i hall
      have hall' : ∀ c ∈ z, wd c = E := fun c hc => Nat.eq_of_beq_eq_true ((List.all_eq_true.1 hall) c hc)
      obtain ⟨cs', hk, _, _, hf⟩ := fillA_sound E ps z _ hk hall'
      refine ⟨_, opD_plain _ hn fun cx w a hr => ?_, hk⟩
      obtain ⟨vs', e1, e2⟩ := hf cx w _ _ (hops cx w a hr) (okz_rel hz)
      refine ⟨.agg vs'.toArray, ?_, ⟨vs', rfl, e2⟩⟩
      simp only [execOp, Instr.build, Sem.run_bind, run_zeroValue' hi1 hi4, Result.andThen_ok, run_underlying hu, run_sizeOf' hj1, hj2, TI.zero, toVal, Value.cells]
      simp only [flat] at e1
      rw [e1]
      rfl
    · exact hk.elim
  · rename_i l E el m z _
    obtain ⟨hu, ⟨b', z', hie⟩, _⟩ := hd
    obtain ⟨ie, hj1, hj2, _, _⟩ := hie.mk
    split at hk
    · rename_i hE hm
      have hE := Nat.eq_of_beq_eq_true hE
      have hm := Nat.eq_of_beq_eq_true hm
      subst hE hm
      have hlen : z.length = m := by
        simp only [TI.zero, okz] at hz
        exact Nat.eq_of_beq_eq_true hz
      obtain ⟨l', hk, hl', hf⟩ := fillB_sound m ps z _ hk hlen
      refine ⟨_, opD_plain _ hn fun cx w a hr => ?_, hk⟩
      have e1 := hf cx w _ (hops cx w a hr)
      refine ⟨.agg (l'.map fun x => Value.int .u8 x).toArray, ?_, ⟨_, rfl, .ba hl'⟩⟩
      simp only [execOp, Instr.build, Sem.run_bind, run_zeroValue' hi1 hi4, Result.andThen_ok, run_underlying hu, run_sizeOf' hj1, hj2, TI.zero, toVal, Value.cells]
      rw [e1]
      rfl
    · exact hk.elim
  · exact hk.elim

theorem reps_mem {α : Type} : ∀ (n : Nat) (x y : α), y ∈ reps n x → y = x
  | 0, _, _, h => by cases h
  | n + 1, x, y, h => by
    rcases List.mem_cons.1 h with h | h
    · exact h
    · exact reps_mem n x y h
theorem reps_rel {cx w} {s : SV} (hs : okz s = true) : ∀ n, RelC cx w (.agg (reps n s)) (List.replicate n (flat s)).flatten
  | 0 => .nil
  | n + 1 => by
    rw [List.replicate_succ, List.flatten_cons]
    exact .cons (okz_rel hs) (reps_rel hs n)
theorem made_cells (l : List Value) (hl : 0 < l.length) (n : Nat) : ((Array.range (n * l.length)).map (l.toArray[· % l.toArray.size]!)) = (List.replicate n l).flatten.toArray := by
  apply Array.ext'
  simp only [Array.toList_map, Array.toList_range]
  induction n with
  | zero => simp
  | succ n ih =>
    rw [List.replicate_succ', List.flatten_append, ← ih, Nat.add_mul, Nat.one_mul, List.range_add, List.map_append]
    simp only [List.flatten_cons, List.flatten_nil, List.append_nil]
    congr 1
    apply List.ext_getElem
    · simp
    · intro i h1 h2
      simp at h1 h2
      have : (n * l.length + i) % l.length = i := by rw [Nat.add_comm, Nat.add_mul_mod_self_right, Nat.mod_eq_of_lt h1]
      simp [this, h1]

theorem toVal_cells {z : SV} (hz : okz z = true) : (toVal z).cells = (flat z).toArray := by
  cases z <;> simp only [okz, Bool.false_eq_true] at hz <;> simp only [toVal, flat]
  · rename_i x; cases x <;> first | rfl | (simp [Value.oneCell'] at hz)
  · rfl
  · rfl
theorem flat_len {z : SV} (hz : okz z = true) : (flat z).length = wd z := (okz_rel (cx := ⟨fun _ => none, fun _ => False⟩) (w := default) hz).width

theorem relC_seg {cx w} {E : Nat} : ∀ {rows : List SV} {vs : List Value}, RelC cx w (.agg rows) vs → (∀ c ∈ rows, wd c = E) → ∀ (i : Nat) s, rows[i]? = some s → RelC cx w s ((vs.drop (i * E)).take E) := by
  intro rows vs h hE i s hs
  have h1 := h.get i s hs
  have hlt : i < rows.length := (List.getElem?_eq_some_iff.1 hs).1
  have := wds_all E rows (by simpa [Nat.beq_eq] using hE) i (by omega)
  rw [this, hE s (List.mem_of_getElem? hs)] at h1
  exact h1
theorem wds_const {E : Nat} : ∀ {rows : List SV}, (∀ c ∈ rows, wd c = E) → wds rows = rows.length * E
  | [], _ => by simp [wds]
  | s :: r, h => by simp [wds, h s (by simp), wds_const (rows := r) fun c hc => h c (by simp [hc]), Nat.add_mul]; omega
end
end Go.Fw

/- The executor is sound: slices. -/
namespace Go.Fw
section
variable {P : Program} {TT : Nat → TI} {n : Sz} {e : List (Nat × SV)} {h : List OB} {K : Rec → Prop}
variable {dst : Option Nat} {ty : TypeId} {pos : String} {after : Array Edge} {guard : Option (Nat × Bool)}

theorem PartsR.len {sl ps l} (h : PartsR sl ps l) : ps.length = l.length := by induction h <;> simp [*]

theorem rows_bare {cx w} {rows : List SV} (hn : noRefs rows = true) {E : Nat} {vs : List Value} (h : RelC cx w (.agg rows) vs) (hE : ∀ c ∈ rows, wd c = E) {cx' w'} (he : Ext cx w cx' w') :
    ∀ i s, rows[i]? = some s → RelC cx'.bare w' s ((vs.drop (i * E)).take E) :=
  fun i s hs => (relC_seg (noRefs_bare h hn) hE i s hs).mono he.bare

theorem frzPs_sound {h : List OB} {n0 : Nat} : ∀ {ps : List (Nat × SV)} {K : List (Nat × SV) → List Nat → Prop}, frzPs h n0 ps K → ∃ ps' ks, K ps' ks ∧ Cold n0 (nthB h) ks ∧ ps'.length = ps.length ∧
    ∀ (cx : Cx) (w : World) (rs : List (Nat × Value)) (hp' : Nat → Option OB) (kk : List Nat), (∀ k ∈ ks, hp' k = nthB h k) → (∀ k ∈ ks, k ∈ kk) → Mem cx w hp' → RelPs cx w ps rs → RelPs (cx.minus kk) w ps' rs
  | [], K, hk => ⟨[], [], hk, fun _ h => (by cases h), rfl, fun cx w rs hp' kk _ _ _ hr => by cases hr; exact .nil⟩
  | (i, s) :: r, K, hk => by
    obtain ⟨s', ks, hk, c1, r1⟩ := frz_sound hk
    obtain ⟨r', ks', hk, c2, hl, r2⟩ := frzPs_sound hk
    rw [app_eq] at hk
    refine ⟨_, _, hk, fun k hk => (List.mem_append.1 hk).elim (c1 k) (c2 k), by simp [hl], fun cx w rs hp' kk hh hkk hm hr => ?_⟩
    cases hr with
    | cons h1 h2 =>
      exact .cons (r1 cx w _ hp' kk (fun k hk => hh k (List.mem_append_left _ hk)) (fun k hk => hkk k (List.mem_append_left _ hk)) hm h1)
        (r2 cx w _ hp' kk (fun k hk => hh k (List.mem_append_right _ hk)) (fun k hk => hkk k (List.mem_append_right _ hk)) hm h2)

theorem s_buildSlice {t : TypeId} {m : Nat} {parts : Array (Nat × Operand)} (hT : TTok P TT) (hn : inFrame n dst = true) (hx : xOp P TT n ⟨dst, .buildSlice t m parts, ty, pos, after, guard⟩ e h K) : Goal P ⟨dst, .buildSlice t m parts, ty, pos, after, guard⟩ n e h K := by
  obtain ⟨ps0, hp, hk⟩ := partsK_sound hx
  obtain ⟨ps, ks, hk, hcold, hpl, hfz⟩ := frzPs_sound hk
  generalize hti : TT t = ti at hk
  have hd := (hT t).desc
  rw [hti] at hd
  split at hk
  · rename_i E bytes z
    obtain ⟨hb, hk⟩ := okT_iff.1 hk
    rw [Bool.and_eq_true] at hb
    have hE0 : 0 < E := by simpa using hb.1
    have hsm : m * E ≤ 16777216 := by simpa using hb.2
    obtain ⟨el, hu, hie, hz, hwz, _⟩ := hd
    obtain ⟨ie, hj1, hj2, _, hj4⟩ := hie.mk
    have hps0 : m = 0 → ps = [] := by
      intro hm
      subst hm
      cases ps with
      | nil => rfl
      | cons q ps =>
        exfalso
        simp only [reps, fillA, len] at hk
        split at hk
        · rename_i hh; simp at hh
        · exact hk
    obtain ⟨rows, hk, hlen, hw, hf⟩ := fillA_sound E ps (reps m z) _ hk (fun c hc => by rw [reps_mem _ _ _ hc]; exact hwz)
    rw [reps_len] at hlen
    obtain ⟨hnr, hk⟩ := okT_iff.1 hk
    refine ⟨_, opD_newF (len h) (.arr (some m) E rows) (.ov E (len h) 0 m) ks hn (nthB_len h) hcold fun cx w a hp' hh hm0 hr => ?_, hk⟩
    have hrp := hfz cx w _ hp' ks hh (fun _ h => h) hm0 (relPs_ofEval hp (cx := cx) (w := w) (a := a) (by simpa [Op.operands] using hr))
    obtain ⟨vs', e1, e2⟩ := hf (cx.minus ks) w _ _ hrp (reps_rel hz m)
    have hvl := e2.width
    simp only [wd, wds_const hw, hlen] at hvl
    have hmk := made_cells (flat z) (by rw [flat_len hz, hwz]; exact hE0) m
    rw [flat_len hz, hwz] at hmk
    refine ⟨.slice (some ⟨w.heap.size, 0, none⟩) m m, .cells vs'.toArray el, m, ?_, fun cx' he => ?_, fun cx' he hb => ?_⟩
    · by_cases hm : m = 0
      · subst hm
        have hps : parts = #[] := by
          have h0 : ps = [] := hps0 rfl
          have := hp.len
          rw [← hpl, h0] at this
          simpa using this
        subst hps
        have hv0 : vs' = [] := by simpa using hvl
        subst hv0
        simp [execOp, Instr.buildSlice, run_underlying hu, run_sizeOf' hj1, Instr.fill, newRow]
        congr 2
        apply Array.ext' 
        simp
      · have hpos : ¬ m * ie.size = 0 := by
          rw [hj2]; exact Nat.ne_of_gt (Nat.mul_pos (by omega) hE0)
        have := run_buildSlice w t el m (parts.map fun (i, x) => (i, a.eval x)) vs'.toArray ie (toVal z) hu hj1 hj4 (by rw [hj2]; omega) hpos (by
          rw [hj2, toVal_cells hz, hmk]
          exact e1)
        simp only [execOp, Sem.run_bind, this, Result.andThen_ok, Sem.run_pure]
    · exact ⟨vs', el, heap_alloc_new _ _, hvl, ⟨by omega, fun c h => by cases h; rfl, e2.ones⟩, rows_bare hnr e2 hw he⟩
    · have := RelC.ov (cx := cx') (w := w.alloc (.cells vs'.toArray el)) (E := E) (k := len h) (off := 0) (n := m) hb (by omega)
      show RelC _ _ _ [_]
      simpa using this
  · exact hk.elim

theorem s_makeSlice {t : TypeId} {l c : Operand} (hT : TTok P TT) (hn : inFrame n dst = true) (hx : xOp P TT n ⟨dst, .makeSlice t l c, ty, pos, after, guard⟩ e h K) : Goal P ⟨dst, .makeSlice t l c, ty, pos, after, guard⟩ n e h K := by
  obtain ⟨s1, h1, hk⟩ := opd_sound hx
  obtain ⟨s2, h2, hk⟩ := opd_sound hk
  obtain ⟨kl, m, e1, hk⟩ := intOf_sound hk
  obtain ⟨kc, m2, e2, hk⟩ := intOf_sound hk
  subst e1 e2
  simp only [nm_eq, wr_eq] at hk
  generalize hti : TT t = ti at hk
  have hd := (hT t).desc
  rw [hti] at hd
  split at hk
  · rename_i E bytes z
    obtain ⟨hb, hk⟩ := okT_iff.1 hk
    have hE0 : 0 < E := by simpa using hb
    obtain ⟨⟨hm0, hm2, hroom, hroom2⟩, hk2⟩ := need_iff.1 hk
    clear hk
    have hmc0 : 0 ≤ m2 := Int.le_trans hm0 hm2
    obtain ⟨el, hu, hie, hz, hwz, _⟩ := hd
    obtain ⟨ie, hj1, hj2, hj3, hj4⟩ := hie.mk
    refine ⟨_, opD_new (len h) (.arr (some m2.toNat) E (List.replicate m2.toNat z)) (.ov E (len h) 0 m.toNat) hn (nthB_len h) fun cx w a hr => ?_, hk2⟩
    have ev1 := relV_v (h1.rel hr fun t ht => mem_slotsOf (by simp [Op.operands, ht]))
    have ev2 := relV_v (h2.rel hr fun t ht => mem_slotsOf (by simp [Op.operands, ht]))
    have hmk := made_cells (flat z) (by rw [flat_len hz, hwz]; exact hE0) m2.toNat
    rw [flat_len hz, hwz] at hmk
    have hrun := run_make (P := P) w t el ie (toVal z) hu hj1 hj4 kl kc m m2 hm0 hm2 (by
      rw [hj3]
      have : ((bytes : Int)) * m2 = ((m2.toNat * bytes : Nat) : Int) := by
        rw [Int.natCast_mul, Int.toNat_of_nonneg hmc0, Int.mul_comm]
      rw [this]; omega) (by omega)
    have hcells : madeCells (toVal z).cells (m2.toNat * ie.size) = (List.replicate m2.toNat (flat z)).flatten.toArray := by
      rw [hj2, toVal_cells hz, ← hmk, ← hwz, ← flat_len hz]
      rfl
    rw [hcells] at hrun
    have hlen : (List.replicate m2.toNat (flat z)).flatten.length = m2.toNat * E := by
      simp [flat_len hz, hwz]
    refine ⟨.slice (some ⟨w.heap.size, 0, none⟩) m.toNat m2.toNat, .cells (List.replicate m2.toNat (flat z)).flatten.toArray el, m2.toNat, by simp only [execOp, ev1, ev2, Sem.run_bind, hrun, Result.andThen_ok, Sem.run_pure], fun cx' he => ?_, fun cx' he hb => ?_⟩
    · refine ⟨_, el, heap_alloc_new _ _, hlen, ⟨by simp, fun c h => by cases h; rfl, fun v hv => by
        obtain ⟨l, h1, h2⟩ := List.mem_flatten.1 hv
        rw [List.eq_of_mem_replicate h1] at h2
        exact (okz_rel (cx := cx') (w := w) hz).ones v h2⟩, fun i s hs => ?_⟩
      obtain ⟨hlt, hsz⟩ := List.getElem?_eq_some_iff.1 hs
      simp at hlt hsz
      subst hsz
      have : ((List.replicate m2.toNat (flat z)).flatten.drop (i * E)).take E = flat z := by
        have e1 : List.replicate m2.toNat (flat z) = List.replicate i (flat z) ++ List.replicate (m2.toNat - i) (flat z) := by
          rw [List.replicate_append_replicate]; congr 1; omega
        rw [e1, List.flatten_append]
        have hli : (List.replicate i (flat z)).flatten.length = i * E := by simp [flat_len hz, hwz]
        rw [← hli, List.drop_left]
        rw [show m2.toNat - i = (m2.toNat - i - 1) + 1 by omega, List.replicate_succ, List.flatten_cons]
        rw [← hwz, ← flat_len hz, List.take_left]
      rw [this]
      exact okz_rel hz
    · have := RelC.ov (cx := cx') (w := w.alloc (.cells (List.replicate m2.toNat (flat z)).flatten.toArray el)) (E := E) (k := len h) (off := 0) (n := m.toNat) hb (by omega)
      show RelC _ _ _ [_]
      simpa using this
  · exact hk.elim

theorem run_bound {k : IntKind} {m : Int} {y : Nat} {code : BoundsCode} {w : World} (hm : 0 ≤ m ∧ m ≤ y) : (Instr.sliceBound (.int k m) y code).run P w = .ok m.toNat w := by
  simp only [Instr.sliceBound, asIntOf, Sem.run_bind, Sem.run_pure, Result.andThen_ok, if_pos hm]

theorem isSlc_under {t : TypeId} (hT : TTok P TT) (h : isSlc (TT t) = true) : ∃ el, P.underlying t = some (.slice el) := by
  have hd := (hT t).desc
  cases hti : TT t <;> rw [hti] at h hd <;> simp only [isSlc, Bool.false_eq_true] at h
  obtain ⟨el, hu, _⟩ := hd
  exact ⟨el, hu⟩

def BoundR (s : Option SV) (d : Nat) (m : Int) : Prop := match s with | none => m = d | some s => ∃ k, s = .v (.int k m)
theorem bound_sound {s : Option SV} {d : Nat} {K : Int → Prop} (h : bound s d K) : ∃ m : Int, K m ∧ BoundR s d m := by
  cases s with
  | none => exact ⟨d, h, rfl⟩
  | some s =>
    obtain ⟨k, m, rfl, h⟩ := intOf_sound h
    exact ⟨m, h, k, rfl⟩

theorem Tg.ok_nil {t : Tg} {a : Option Addr} {cap : Nat} (h : t.ok a cap) {c : Option Nat} (hc : ∀ x, c = some x → x = 0) : Tg.ok ⟨c, t.nn⟩ a 0 := ⟨h.1, fun x hx => (hc x hx).symm⟩
/-- A part of a shared slice. -/
theorem fs_part {cx : Cx} {w : World} {t : Tg} {E : Nat} {rows : List SV} {a : Option Addr} {len cap l u m : Nat} (hr : RelC cx w (.fs t E rows) [.slice a len cap])
    (hl : l ≤ u) (hu : u ≤ rows.length) (hm : u ≤ m) (hmc : m ≤ cap) (c : Option Nat) (ht : ∀ x, c = some x → (∀ y, t.cap = some y → cap = y) → m - l = x) :
    RelC cx w (.fs ⟨c, t.nn⟩ E ((rows.drop l).take (u - l))) [.slice (if m = l then a else a.map (·.add (l * E))) (u - l) (m - l)] := by
  cases hr with
  | fs0 ho =>
    simp at hu
    subst hu
    obtain rfl : l = 0 := by omega
    obtain rfl : m = 0 := by omega
    exact .fs0 (Tg.ok_nil ho fun x hx => (ht x hx ho.2).symm)
  | fs f hb hO hc htt hrows hlen hcell =>
    rename_i b off cs T fz
    by_cases hml : m = l
    · subst hml
      obtain rfl : m = u := by omega
      simp only [Nat.sub_self, List.take_zero, if_true]
      exact .fs0 (Tg.ok_nil htt fun x hx => by have := ht x hx htt.2; omega)
    · simp only [if_neg hml, Option.map_some, add_none]
      have hlen' : ((rows.drop l).take (u - l)).length = u - l := by simp; omega
      have := RelC.fs (cx := cx) (w := w) (t := ⟨c, t.nn⟩) (E := E) (rows := (rows.drop l).take (u - l)) (off := off + l * E) (cap := m - l) (fun i => f (i + l)) hb hO (by rw [hlen']; omega)
        ⟨fun _ h => (by cases h), fun x hx => ht x hx htt.2⟩
        (fun i s hs => by
          simp only [List.getElem?_take, List.getElem?_drop] at hs
          split at hs
          · exact hrows (i + l) s (by rw [Nat.add_comm]; exact hs)
          · cases hs)
        (fun i hi => hlen (i + l) (by rw [hlen'] at hi; omega))
        (fun i hi j x hj => by
          rw [hlen'] at hi
          have := hcell (i + l) (by omega) j x hj
          rw [Nat.add_mul] at this
          rw [← this]; congr 1; omega)
      rw [hlen'] at this
      exact this

theorem cut_cap {t : Tg} {cap : Nat} (l : Nat) : ∀ x, t.cap.map (· - l) = some x → (∀ y, t.cap = some y → cap = y) → cap - l = x := by
  intro x hx hy
  cases hc : t.cap with
  | none => rw [hc] at hx; cases hx
  | some y =>
    rw [hc] at hx
    simp only [Option.map_some, Option.some.injEq] at hx
    have := hy y hc
    omega

theorem opD_lookp {o : Oper} {sl : Nat → Option SV} {hp : Nat → Option OB} {s : SV} (k : Nat) (h : OpD P o n sl hp (.plain o s)) : OpD P o n sl hp (.look o k s) :=
  fun sl' hp' ha => h sl' hp' (by
    simp only [Agree, Rec.look, Rec.plain, Bool.false_eq_true, if_false] at ha ⊢
    exact ⟨ha.1, fun k hk => by cases hk⟩)

theorem run_slice (w : World) (ρ : Operand → Value) (t : TypeId) (el : TypeId) (ie : TypeInfo) (a0 : Option Addr) (len cap l u m : Nat) (x : Operand) (lo hi mx : Option Operand)
    (hu : P.underlying t = some (.slice el)) (hie : P.info? el = some ie) (he : ρ x = .slice a0 len cap)
    (ho : lo = none ∧ l = 0 ∨ ∃ y k, lo = some y ∧ ρ y = .int k l) (hh : hi = none ∧ mx = none ∧ u = len ∨ ∃ y k, hi = some y ∧ ρ y = .int k u)
    (hm : mx = none ∧ m = cap ∨ ∃ y k, mx = some y ∧ ρ y = .int k m) (h1 : l ≤ u) (h2 : u ≤ m) (h3 : m ≤ cap) :
    (execOp ρ ⟨dst, .slice t x lo hi mx, ty, pos, after, guard⟩).run P w = .ok (.value (.slice (if m = l then a0 else a0.map (·.add (l * ie.size))) (u - l) (m - l))) w := by
  have bl : ∀ k code, (Instr.sliceBound (.int k (l : Int)) u code).run P w = .ok l w := fun k code => by rw [run_bound ⟨by omega, by omega⟩]; simp
  have bu : ∀ k code, (Instr.sliceBound (.int k (u : Int)) m code).run P w = .ok u w := fun k code => by rw [run_bound ⟨by omega, by omega⟩]; simp
  have bm : ∀ k code, (Instr.sliceBound (.int k (m : Int)) cap code).run P w = .ok m w := fun k code => by rw [run_bound ⟨by omega, by omega⟩]; simp
  have hsl : (Instr.sliceBounds true len cap (lo.map ρ) (hi.map ρ) (mx.map ρ)).run P w = .ok (l, u, m) w := by
    rcases ho with ⟨rfl, rfl⟩ | ⟨y1, k1, rfl, e1⟩ <;> rcases hm with ⟨rfl, rfl⟩ | ⟨y3, k3, rfl, e3⟩ <;> rcases hh with ⟨rfl, h4, rfl⟩ | ⟨y2, k2, rfl, e2⟩ <;> first
      | (cases h4; done)
      | (simp only [Instr.sliceBounds, Option.map_some, Option.map_none, *, Sem.run_bind, Sem.run_pure, Result.andThen_ok]; done)
      | (simp [Instr.sliceBounds, *]; done)
  simp only [execOp, Instr.sliceAt, he, Instr.slice, Sem.run_bind, run_underlying hu, Result.andThen_ok, hsl, run_sizeOf' hie, Sem.run_pure]

theorem opt_ev {sl : Nat → Option SV} {o : Option Operand} {so : Option SV} {m : Int} {d : Nat} (ho : OptR sl o so) (hs : BoundR so d m) (h0 : 0 ≤ m)
    {ts : List Nat} (hmem : ∀ t, o = some (.tmp t) → t ∈ ts) {cx : Cx} {w : World} {a : Act} (hr : Reads sl ts cx w a) :
    (o = none ∧ so = none ∧ m = d) ∨ ∃ y k, o = some y ∧ so.isSome = true ∧ a.eval y = .int k (m.toNat : Int) := by
  cases o with
  | none => cases so with
    | none => exact .inl ⟨rfl, rfl, hs⟩
    | some s => exact ho.elim
  | some y => cases so with
    | none => exact ho.elim
    | some s =>
      obtain ⟨k, rfl⟩ := hs
      refine .inr ⟨y, k, rfl, rfl, ?_⟩
      rw [Int.toNat_of_nonneg h0]
      exact relV_v (OpdR.rel ho hr fun t ht => hmem t (by rw [ht]))

theorem fs_slice {cx w t E rows v} (h : RelC cx w (.fs t E rows) [v]) : ∃ a0 cap, v = .slice a0 rows.length cap ∧ rows.length ≤ cap := by
  cases h with
  | fs0 => exact ⟨_, _, rfl, Nat.le_refl _⟩
  | fs f _ _ hc => exact ⟨_, _, rfl, hc⟩

theorem s_slice {t : TypeId} {x : Operand} {lo hi mx : Option Operand} (hT : TTok P TT) (hn : inFrame n dst = true) (hx : xOp P TT n ⟨dst, .slice t x lo hi mx, ty, pos, after, guard⟩ e h K) : Goal P ⟨dst, .slice t x lo hi mx, ty, pos, after, guard⟩ n e h K := by
  obtain ⟨sx, h1, hk1⟩ := opd_sound hx
  obtain ⟨slo, hlo, hk2⟩ := opdo_sound hk1
  obtain ⟨shi, hhi, hk3⟩ := opdo_sound hk2
  obtain ⟨smx, hmx, hk⟩ := opdo_sound hk3
  clear hx hk1 hk2 hk3
  have rx : ∀ (cx : Cx) (w : World) (a : Act), Reads (lk e) (slotsOf (Op.slice t x lo hi mx).operands.toList) cx w a → RelV cx w sx (a.eval x) := fun cx w a hr =>
    h1.rel hr fun t ht => mem_slotsOf (by simp [Op.operands, ht])
  have mlo : ∀ u, lo = some (.tmp u) → u ∈ slotsOf (Op.slice t x lo hi mx).operands.toList := fun u hy => mem_slotsOf (by subst hy; simp [Op.operands])
  have mhi : ∀ u, hi = some (.tmp u) → u ∈ slotsOf (Op.slice t x lo hi mx).operands.toList := fun u hy => mem_slotsOf (by subst hy; simp [Op.operands])
  have mmx : ∀ u, mx = some (.tmp u) → u ∈ slotsOf (Op.slice t x lo hi mx).operands.toList := fun u hy => mem_slotsOf (by subst hy; simp [Op.operands])
  clear h1
  have hd := (hT t).desc
  unfold execSlice sliceFs sliceOv sliceOv3 sliceBox sliceIn sliceEl at hk
  simp only [nm_eq, wr_eq] at hk
  generalize TT t = ti at hk hd
  split at hk
  · rename_i E0 bytes z t0 E rows
    obtain ⟨hE, hk1⟩ := okT_iff.1 hk
    have hE := Nat.eq_of_beq_eq_true hE
    subst hE
    obtain ⟨el, hu, hie, _⟩ := hd
    obtain ⟨ie, hj1, hj2, _, _⟩ := hie.mk
    obtain ⟨l, hk2, bl⟩ := bound_sound hk1
    obtain ⟨u, hk3, bu⟩ := bound_sound hk2
    clear hk hk1 hk2
    split at hk3
    · obtain ⟨⟨c1, c2, c3⟩, hk⟩ := need_iff.1 hk3
      refine ⟨_, opD_plain _ hn fun cx w a hr => ?_, hk⟩
      have hv : RelC cx w (.fs t0 E0 rows) [a.eval x] := rx cx w a hr
      obtain ⟨a0, cap, he, hcap⟩ := fs_slice hv
      have el1 := opt_ev hlo bl c1 mlo hr
      simp only [BoundR] at bu
      have hmn : mx = none := by cases mx with | none => rfl | some y => exact hmx.elim
      have hin : hi = none := by cases hi with | none => rfl | some y => exact hhi.elim
      have hrun := run_slice (dst := dst) (ty := ty) (pos := pos) (after := after) (guard := guard) w a.eval t el ie a0 rows.length cap l.toNat u.toNat cap x lo hi mx hu hj1 he
        (el1.imp (fun ⟨h1, _, h2⟩ => ⟨h1, by omega⟩) (fun ⟨y, k, h1, _, h2⟩ => ⟨y, k, h1, h2⟩)) (.inl ⟨hin, hmn, by omega⟩) (.inl ⟨hmn, rfl⟩) (by omega) (by omega) (Nat.le_refl _)
      refine ⟨_, hrun, ?_⟩
      rw [he] at hv
      rw [hj2]
      exact fs_part hv (by omega) (by omega) (by omega) (Nat.le_refl _) _ (cut_cap _)
    · rename_i s0
      obtain ⟨⟨c1, c2, c3⟩, hk⟩ := need_iff.1 hk3
      refine ⟨_, opD_plain _ hn fun cx w a hr => ?_, hk⟩
      have hv : RelC cx w (.fs t0 E0 rows) [a.eval x] := rx cx w a hr
      obtain ⟨a0, cap, he, hcap⟩ := fs_slice hv
      have el1 := opt_ev hlo bl c1 mlo hr
      have eh1 := opt_ev hhi bu (by omega) mhi hr
      have hmn : mx = none := by cases mx with | none => rfl | some y => exact hmx.elim
      have hrun := run_slice (dst := dst) (ty := ty) (pos := pos) (after := after) (guard := guard) w a.eval t el ie a0 rows.length cap l.toNat u.toNat cap x lo hi mx hu hj1 he
        (el1.imp (fun ⟨h1, _, h2⟩ => ⟨h1, by omega⟩) (fun ⟨y, k, h1, _, h2⟩ => ⟨y, k, h1, h2⟩)) (eh1.elim (fun ⟨_, h, _⟩ => by cases h) (fun ⟨y, k, h1, _, h2⟩ => .inr ⟨y, k, h1, h2⟩)) (.inl ⟨hmn, rfl⟩) (by omega) (by omega) (Nat.le_refl _)
      refine ⟨_, hrun, ?_⟩
      rw [he] at hv
      rw [hj2]
      exact fs_part hv (by omega) (by omega) (by omega) (Nat.le_refl _) _ (cut_cap _)
    · rename_i m0 s0
      obtain ⟨km, m, hm0, hk4⟩ := intOf_sound hk3
      subst hm0
      obtain ⟨⟨c1, c2, c3, c4⟩, hk⟩ := need_iff.1 hk4
      refine ⟨_, opD_plain _ hn fun cx w a hr => ?_, hk⟩
      have hv : RelC cx w (.fs t0 E0 rows) [a.eval x] := rx cx w a hr
      obtain ⟨a0, cap, he, hcap⟩ := fs_slice hv
      have el1 := opt_ev hlo bl c1 mlo hr
      have eh1 := opt_ev hhi bu (by omega) mhi hr
      have em1 := opt_ev (m := m) (d := 0) hmx ⟨km, rfl⟩ (by omega) mmx hr
      have hrun := run_slice (dst := dst) (ty := ty) (pos := pos) (after := after) (guard := guard) w a.eval t el ie a0 rows.length cap l.toNat u.toNat m.toNat x lo hi mx hu hj1 he
        (el1.imp (fun ⟨h1, _, h2⟩ => ⟨h1, by omega⟩) (fun ⟨y, k, h1, _, h2⟩ => ⟨y, k, h1, h2⟩)) (eh1.elim (fun ⟨_, h, _⟩ => by cases h) (fun ⟨y, k, h1, _, h2⟩ => .inr ⟨y, k, h1, h2⟩))
        (em1.elim (fun ⟨_, h, _⟩ => by cases h) (fun ⟨y, k, h1, _, h2⟩ => .inr ⟨y, k, h1, h2⟩)) (by omega) (by omega) (by omega)
      refine ⟨_, hrun, ?_⟩
      rw [he] at hv
      rw [hj2]
      exact fs_part hv (by omega) (by omega) (by omega) (by omega) _ fun x hx _ => by cases hx; omega
    · exact hk3.elim
  · rename_i E0 bytes z E k off len
    obtain ⟨hE, hk1⟩ := okT_iff.1 hk
    have hE := Nat.eq_of_beq_eq_true hE
    subst hE
    obtain ⟨el, hu, hie, _⟩ := hd
    obtain ⟨ie, hj1, hj2, _, _⟩ := hie.mk
    clear hk
    split at hk1
    · rename_i sm0
      split at hk1
      case h_2 => exact hk1.elim
      rename_i sh0
      obtain ⟨l, hk2, bl⟩ := bound_sound hk1
      obtain ⟨u, hk3, bu⟩ := bound_sound hk2
      obtain ⟨km, m, hm0, hk4⟩ := intOf_sound hk3
      subst hm0
      clear hk1 hk2 hk3
      have go : ∀ (w : World) (a : Act), 0 ≤ l → l ≤ u → u ≤ m → ∀ (cx : Cx), Reads (lk e) (slotsOf (Op.slice t x lo hi mx).operands.toList) cx w a → ∀ (a0 : Option Addr) (n1 cap : Nat), a.eval x = .slice a0 n1 cap → m.toNat ≤ cap →
          (execOp a.eval ⟨dst, .slice t x lo hi mx, ty, pos, after, guard⟩).run P w = .ok (.value (.slice (if m.toNat = l.toNat then a0 else a0.map (·.add (l.toNat * ie.size))) (u.toNat - l.toNat) (m.toNat - l.toNat))) w := by
        intro w a c1 c2 c3 cx hr a0 n1 cap he hc
        have el1 := opt_ev hlo bl c1 mlo hr
        have eh1 := opt_ev hhi bu (by omega) mhi hr
        have em1 := opt_ev (m := m) (d := 0) hmx ⟨km, rfl⟩ (by omega) mmx hr
        exact run_slice (dst := dst) (ty := ty) (pos := pos) (after := after) (guard := guard) w a.eval t el ie a0 n1 cap l.toNat u.toNat m.toNat x lo hi mx hu hj1 he
          (el1.imp (fun ⟨h1, _, h2⟩ => ⟨h1, by omega⟩) (fun ⟨y, k, h1, _, h2⟩ => ⟨y, k, h1, h2⟩)) (eh1.elim (fun ⟨_, h, _⟩ => by cases h) (fun ⟨y, k, h1, _, h2⟩ => .inr ⟨y, k, h1, h2⟩))
          (em1.elim (fun ⟨_, h, _⟩ => by cases h) (fun ⟨y, k, h1, _, h2⟩ => .inr ⟨y, k, h1, h2⟩)) (by omega) (by omega) (by omega)
      rcases Sl3.inv hk4 with hk5 | hk5
      · obtain ⟨⟨c1, c2, c3, c4⟩, hk⟩ := need_iff.1 hk5
        refine ⟨_, opD_plain .top hn fun cx w a hr => ?_, hk⟩
        have hv : RelC cx w (.ov E0 k off len) [a.eval x] := rx cx w a hr
        generalize hv0 : a.eval x = v0 at hv
        cases hv with
        | ov hb hC => exact ⟨_, go w a c1 c2 c3 cx hr _ _ _ hv0 (by omega), trivial⟩
        | ov0 hb => exact ⟨_, go w a c1 c2 c3 cx hr _ _ _ hv0 (by omega), trivial⟩
        | ovz hb => exact ⟨_, go w a c1 c2 c3 cx hr _ _ _ hv0 (by omega), trivial⟩
      · split at hk5
        · rename_i xo E1 rows hn0 hs
          obtain ⟨hE1, hk6⟩ := okT_iff.1 hk5
          have hE1 := Nat.eq_of_beq_eq_true hE1
          subst hE1
          obtain ⟨⟨c1, c2, c3, c4, c5⟩, hk⟩ := need_iff.1 hk6
          refine ⟨_, opD_plainF _ [k] hn (fun j hj => by rw [List.mem_singleton.1 hj]; exact ⟨by simpa using hn0, _, hs, by simp⟩) fun cx w a hp' hh hm hr => ?_, hk⟩
          have hv : RelC cx w (.ov E0 k off len) [a.eval x] := rx cx w a hr
          have hfz : frzOne h n.n0 (.ov E0 k off len) (fun s ks => s = .fs ⟨xo.map (· - off), false⟩ E0 ((rows.drop off).take len) ∧ ks = [k]) := by
            unfold frzOne
            simp only [nm_eq, hn0, hs]
            exact okT_iff.2 ⟨by simp, need_iff.2 ⟨c5, by simp⟩⟩
          obtain ⟨s', ks', ⟨rfl, rfl⟩, _, _, _, hf⟩ := frzOne_sound hfz
          have hv2 := hf cx w _ hp' [k] (fun j hj => hh j hj) (fun _ h => h) hm hv
          obtain ⟨a0, cap, he, hcap⟩ := fs_slice hv2
          have hl2 : ((rows.drop off).take len).length = len := by simp; omega
          rw [hl2] at hcap
          refine ⟨_, go w a c1 c2 c3 cx hr _ _ _ he (by omega), ?_⟩
          rw [he] at hv2
          rw [hj2]
          have := fs_part hv2 (l := l.toNat) (u := u.toNat) (m := m.toNat) (by omega) (by rw [hl2]; omega) (by omega) (by omega) (some (m.toNat - l.toNat)) fun x hx _ => by cases hx; rfl
          have e3 : ((((rows.drop off).take len).drop l.toNat).take (u.toNat - l.toNat)) = (rows.drop (off + l.toNat)).take (u.toNat - l.toNat) := by
            rw [List.drop_take, List.take_take, List.drop_drop, Nat.min_eq_left (by omega)]
          rw [e3] at this
          exact this
        · exact hk5.elim
    · obtain ⟨l, hk2, bl⟩ := bound_sound hk1
      obtain ⟨u, hk3, bu⟩ := bound_sound hk2
      clear hk1 hk2
      have hmn : mx = none := by cases mx with | none => rfl | some y => exact hmx.elim
      have main : 0 ≤ l → l ≤ u → ∀ (cx : Cx) (w : World) (a : Act), Reads (lk e) (slotsOf (Op.slice t x lo hi mx).operands.toList) cx w a → (∀ b C, cx.bl k = some (.at b C) → u ≤ len ∨ off + u ≤ C) → (cx.bl k = some .virt → u ≤ len ∨ u ≤ 0) →
          ∃ v, (execOp a.eval ⟨dst, .slice t x lo hi mx, ty, pos, after, guard⟩).run P w = .ok (.value v) w ∧ RelV cx w (.ov E0 k (off + l.toNat) (u.toNat - l.toNat)) v := by
        intro c1 c2 cx w a hr q1 q2
        have hv : RelC cx w (.ov E0 k off len) [a.eval x] := rx cx w a hr
        have el1 := opt_ev hlo bl c1 mlo hr
        have eh1 := opt_ev hhi bu (by omega) mhi hr
        have go : ∀ a0 cap, a.eval x = .slice a0 len cap → u.toNat ≤ cap → (execOp a.eval ⟨dst, .slice t x lo hi mx, ty, pos, after, guard⟩).run P w =
            .ok (.value (.slice (if cap = l.toNat then a0 else a0.map (·.add (l.toNat * ie.size))) (u.toNat - l.toNat) (cap - l.toNat))) w := fun a0 cap he hc =>
          run_slice w a.eval t el ie a0 len cap l.toNat u.toNat cap x lo hi mx hu hj1 he
            (el1.imp (fun ⟨h1, _, h2⟩ => ⟨h1, by omega⟩) (fun ⟨y, k, h1, _, h2⟩ => ⟨y, k, h1, h2⟩)) (eh1.imp (fun ⟨h1, _, h2⟩ => ⟨h1, hmn, by omega⟩) (fun ⟨y, k, h1, _, h2⟩ => ⟨y, k, h1, h2⟩)) (.inl ⟨hmn, rfl⟩) (by omega) (by omega) (Nat.le_refl _)
        generalize hv0 : a.eval x = v0 at hv
        cases hv with
        | ov hb hC =>
          rename_i b C
          have := q1 _ _ hb
          refine ⟨_, go _ _ hv0 (by omega), ?_⟩
          show RelC _ _ _ [_]
          by_cases hcl : C - off = l.toNat
          · rw [if_pos hcl]
            have hul : u.toNat - l.toNat = 0 := by omega
            have hc0 : C - off - l.toNat = 0 := by omega
            rw [hul, hc0, show off + l.toNat = C by omega]
            exact .ovz hb
          · rw [if_neg hcl, Option.map_some, add_none, hj2, ← Nat.add_mul, Nat.sub_sub]
            exact .ov hb (by omega)
        | ov0 hb =>
          have := q2 hb
          refine ⟨_, go _ _ hv0 (by omega), ?_⟩
          show RelC _ _ _ [_]
          have : l.toNat = 0 := by omega
          have h2 : u.toNat = 0 := by omega
          simp only [this, h2, if_true]
          exact .ov0 hb
        | ovz hb =>
          have := q1 _ _ hb
          refine ⟨_, go _ _ hv0 (by omega), ?_⟩
          show RelC _ _ _ [_]
          have : l.toNat = 0 := by omega
          have h2 : u.toNat = 0 := by omega
          simp only [this, h2, if_true]
          exact .ovz hb
      split at hk3
      · rename_i xo E1 rows hs
        obtain ⟨⟨c1, c2, c3⟩, hk⟩ := need_iff.1 hk3
        refine ⟨_, opD_look k _ _ hn hs fun cx w a hr hl => main c1 c2 cx w a hr (fun b C hb => ?_) fun hb => ?_, hk⟩
        · rcases c3 with c3 | c3
          · exact .inl c3
          · rcases hl with ⟨b', C', h1, _, vs, T, _, _, hA, _⟩ | ⟨h1, _⟩
            · rw [hb] at h1; cases h1
              have := hA.le
              exact .inr (by omega)
            · rw [hb] at h1; cases h1
        · rcases c3 with c3 | c3
          · exact .inl c3
          · rcases hl with ⟨b', C', h1, _⟩ | ⟨_, E', h2⟩
            · rw [hb] at h1; cases h1
            · simp only [OB.arr.injEq] at h2
              have := h2.2.2
              subst this
              simp at c3
              exact .inr (by omega)
      · obtain ⟨⟨c1, c2, c3⟩, hk⟩ := need_iff.1 hk3
        exact ⟨_, opD_lookp k (opD_plain (.ov E0 k (off + l.toNat) (u.toNat - l.toNat)) hn fun cx w a hr => main c1 c2 cx w a hr (fun _ _ _ => .inl c3) fun _ => .inl c3), hk⟩
  · rename_i l E el z k p
    split at hk
    · obtain ⟨hb, hk2⟩ := okT_iff.1 hk
      clear hk
      rw [Bool.and_eq_true] at hb
      have hE := Nat.eq_of_beq_eq_true hb.1
      subst hE
      have hl : 0 < l := by simpa using hb.2
      obtain ⟨hu, ⟨b', z', hie⟩, _⟩ := hd
      obtain ⟨ie, hj1, hj2, _, _⟩ := hie.mk
      have hln : lo = none := by cases lo with | none => rfl | some y => exact hlo.elim
      have hin : hi = none := by cases hi with | none => rfl | some y => exact hhi.elim
      have hmn : mx = none := by cases mx with | none => rfl | some y => exact hmx.elim
      subst hln hin hmn
      refine ⟨_, opD_lookp k (opD_plain (.sb k p 0 l) hn fun cx w a hr => ?_), hk2⟩
      · have hv : RelC cx w (.pb k p) [a.eval x] := rx cx w a hr
        generalize hv0 : a.eval x = v0 at hv
        cases hv with
        | pb hb =>
          rename_i b C
          refine ⟨.slice (some ⟨b, offs p, none⟩) l l, ?_, .sb (off := 0) hb (Nat.le_refl _)⟩
          have : ¬ l = 0 := by omega
          simp only [execOp, Instr.sliceAt, hv0, Instr.sureAddr, Instr.sliceBounds, Option.map_none, Sem.run_bind, run_underlying hu, Result.andThen_ok, run_sizeOf' hj1, Sem.run_pure, Nat.sub_zero, Nat.zero_mul, this, if_false, add_none, Nat.add_zero]
    · rename_i s0
      obtain ⟨hb, hk2⟩ := okT_iff.1 hk
      clear hk
      have hE := Nat.eq_of_beq_eq_true hb
      subst hE
      obtain ⟨kl, lv, hs0, hk3⟩ := intOf_sound hk2
      subst hs0
      obtain ⟨⟨c1, c2⟩, hk4⟩ := need_iff.1 hk3
      obtain ⟨hu, ⟨b', z', hie⟩, _⟩ := hd
      obtain ⟨ie, hj1, hj2, _, _⟩ := hie.mk
      have hin : hi = none := by cases hi with | none => rfl | some y => exact hhi.elim
      have hmn : mx = none := by cases mx with | none => rfl | some y => exact hmx.elim
      subst hin hmn
      refine ⟨_, opD_lookp k (opD_plain (.sb k p lv.toNat (l - lv.toNat)) hn fun cx w a hr => ?_), hk4⟩
      have hv : RelC cx w (.pb k p) [a.eval x] := rx cx w a hr
      have el1 := opt_ev (m := lv) (d := 0) hlo ⟨kl, rfl⟩ c1 mlo hr
      rcases el1 with ⟨_, h, _⟩ | ⟨y, k1, rfl, _, hy⟩
      · cases h
      generalize hv0 : a.eval x = v0 at hv
      cases hv with
      | pb hb =>
        rename_i b C
        refine ⟨.slice (some ⟨b, offs p + lv.toNat, none⟩) (l - lv.toNat) (l - lv.toNat), ?_, .sb hb (Nat.le_refl _)⟩
        have hne : ¬ l = lv.toNat := by omega
        have hq : lv.toNat ≤ l := by omega
        generalize lv.toNat = q at hy hne hq ⊢
        have bl : ∀ code, (Instr.sliceBound (.int k1 (q : Int)) l code).run P w = .ok q w := fun code => by rw [run_bound ⟨by omega, by omega⟩]; simp
        simp [execOp, Instr.sliceAt, hv0, hy, Instr.sureAddr, Instr.sliceBounds, run_underlying hu, run_sizeOf' hj1, bl, hne, hj2, add_none]
    · rename_i s0
      obtain ⟨hb, hk2⟩ := okT_iff.1 hk
      clear hk
      have hE := Nat.eq_of_beq_eq_true hb
      subst hE
      obtain ⟨lv, hk3, bl⟩ := bound_sound hk2
      obtain ⟨kl, uv, hs0, hk4⟩ := intOf_sound hk3
      subst hs0
      obtain ⟨⟨c1, c2, c3, c4⟩, hk5⟩ := need_iff.1 hk4
      obtain ⟨hu, ⟨b', z', hie⟩, _⟩ := hd
      obtain ⟨ie, hj1, hj2, _, _⟩ := hie.mk
      have hmn : mx = none := by cases mx with | none => rfl | some y => exact hmx.elim
      subst hmn
      refine ⟨_, opD_lookp k (opD_plain (.sb k p lv.toNat (uv.toNat - lv.toNat)) hn fun cx w a hr => ?_), hk5⟩
      have hv : RelC cx w (.pb k p) [a.eval x] := rx cx w a hr
      have el1 := opt_ev hlo bl c1 mlo hr
      have eh1 := opt_ev (m := uv) (d := 0) hhi ⟨kl, rfl⟩ (by omega) mhi hr
      rcases eh1 with ⟨_, h, _⟩ | ⟨y2, k2, rfl, _, hy2⟩
      · cases h
      generalize hv0 : a.eval x = v0 at hv
      cases hv with
      | pb hb =>
        rename_i b C
        refine ⟨.slice (some ⟨b, offs p + lv.toNat, none⟩) (uv.toNat - lv.toNat) (l - lv.toNat), ?_, .sb hb (by omega)⟩
        have hne : ¬ l = lv.toNat := by omega
        have hq : lv.toNat ≤ uv.toNat := by omega
        have hq2 : uv.toNat ≤ l := by omega
        rcases el1 with ⟨rfl, _, h0⟩ | ⟨y, k1, rfl, _, hy⟩
        · have h0 : lv.toNat = 0 := by omega
          generalize uv.toNat = r at hy2 hq hq2 ⊢
          have bu : ∀ code, (Instr.sliceBound (.int k2 (r : Int)) l code).run P w = .ok r w := fun code => by rw [run_bound ⟨by omega, by omega⟩]; simp
          simp [execOp, Instr.sliceAt, hv0, hy2, Instr.sureAddr, Instr.sliceBounds, run_underlying hu, run_sizeOf' hj1, bu, hj2, add_none, h0, show ¬ l = 0 by omega]
        · generalize uv.toNat = r at hy2 hq hq2 ⊢
          generalize lv.toNat = q at hy hne hq ⊢
          have bu : ∀ code, (Instr.sliceBound (.int k2 (r : Int)) l code).run P w = .ok r w := fun code => by rw [run_bound ⟨by omega, by omega⟩]; simp
          have bl : ∀ code, (Instr.sliceBound (.int k1 (q : Int)) r code).run P w = .ok q w := fun code => by rw [run_bound ⟨by omega, by omega⟩]; simp
          simp [execOp, Instr.sliceAt, hv0, hy, hy2, Instr.sureAddr, Instr.sliceBounds, run_underlying hu, run_sizeOf' hj1, bl, bu, hne, hj2, add_none]
    · exact hk.elim
  · rename_i l E el z E' rows i p
    split at hk
    · obtain ⟨hb, hk2⟩ := okT_iff.1 hk
      clear hk
      rw [Bool.and_eq_true] at hb
      have hE := Nat.eq_of_beq_eq_true hb.1
      subst hE
      have hl : 0 < l := by simpa using hb.2
      obtain ⟨s, hs, hk3⟩ := elem_iff.1 hk2
      obtain ⟨y, hk4, hle, hy⟩ := follow_sound _ _ _ hk3
      split at hk4
      case h_2 => exact hk4.elim
      rename_i m bs
      obtain ⟨hm, hk5⟩ := okT_iff.1 hk4
      have hm := Nat.eq_of_beq_eq_true hm
      subst hm
      obtain ⟨hu, ⟨b', z', hie⟩, _⟩ := hd
      obtain ⟨ie, hj1, hj2, _, _⟩ := hie.mk
      have hln : lo = none := by cases lo with | none => rfl | some y => exact hlo.elim
      have hin : hi = none := by cases hi with | none => rfl | some y => exact hhi.elim
      have hmn : mx = none := by cases mx with | none => rfl | some y => exact hmx.elim
      subst hln hin hmn
      refine ⟨_, opD_plain _ hn fun cx w a hr => ?_, hk5⟩
      have hv : RelC cx w (.pf E' rows i p) [a.eval x] := rx cx w a hr
      generalize hv0 : a.eval x = v0 at hv
      cases hv with
      | @pf _ _ t0 _ _ b off n0 cap _ _ hf =>
        cases hf with
        | fs0 => simp at hs
        | @fs _ _ _ _ _ _ _ _ cs T fz f h1 h2 h3 h4 h5 h6 h7 =>
          have hir : i < rows.length := (List.getElem?_eq_some_iff.1 hs).1
          have r1 := h5 i s hs
          have r2 := hy _ _ _ r1
          have hwl : (f i).length = wd s := r1.width
          generalize hsg : ((f i).drop (offs p)).take (wd (SV.ba m bs)) = seg at r2
          cases r2 with
          | ba hbl =>
            have hm0 : ¬ m = 0 := by omega
            refine ⟨.slice (some ⟨b, off + i * E' + offs p, none⟩) m m, ?_, ?_⟩
            · simp only [execOp, Instr.sliceAt, hv0, Instr.sureAddr, Instr.sliceBounds, Option.map_none, Sem.run_bind, run_underlying hu, Result.andThen_ok, run_sizeOf' hj1, Sem.run_pure, Nat.sub_zero, Nat.zero_mul, hm0, if_false, add_none, Nat.add_zero]
            · show RelC cx w _ [_]
              have hbl2 : (bytesRows bs).length = m := by simp [bytesRows, hbl]
              have := RelC.fs (cx := cx) (w := w) (t := ⟨some m, true⟩) (E := 1) (rows := bytesRows bs) (b := b) (off := off + i * E' + offs p) (cap := m) (fun q => [.int .u8 (bs.getD q 0)]) h1 h2 (by omega) ⟨fun _ => by simp, fun c hc => by cases hc; rfl⟩
                (fun q s hq => by
                  have hql : q < bs.length := by
                    have := (List.getElem?_eq_some_iff.1 hq).1
                    simpa [bytesRows] using this
                  simp only [bytesRows, List.getElem?_map, List.getElem?_eq_getElem hql, Option.map_some, Option.some.injEq] at hq
                  subst hq
                  simp only [List.getD, List.getElem?_eq_getElem hql, Option.getD_some]
                  exact .v rfl)
                (fun q hq => rfl) (fun q hq j u hj => by
                  have hql : q < bs.length := by omega
                  have hj0 : j = 0 := by
                    have := (List.getElem?_eq_some_iff.1 hj).1
                    simpa using this
                  subst hj0
                  simp only [List.getElem?_cons_zero, Option.some.injEq] at hj
                  have h8 : (f i)[offs p + q]? = some u := by
                    have : (((f i).drop (offs p)).take (wd (SV.ba m bs)))[q]? = some u := by
                      rw [hsg, ← hj]
                      simp [List.getElem?_eq_getElem hql]
                    rw [List.getElem?_take] at this
                    split at this
                    · rwa [List.getElem?_drop] at this
                    · cases this
                  have := h7 i hir (offs p + q) u h8
                  rw [← this]; congr 1; omega)
              rw [hbl2] at this
              exact this
    · exact hk.elim
  · rename_i l E el z E1 k i p
    split at hk
    · obtain ⟨hb, hk2⟩ := okT_iff.1 hk
      clear hk
      rw [Bool.and_eq_true] at hb
      have hE := Nat.eq_of_beq_eq_true hb.1
      subst hE
      have hl : 0 < l := by simpa using hb.2
      obtain ⟨hu, ⟨b', z', hie⟩, _⟩ := hd
      obtain ⟨ie, hj1, hj2, _, _⟩ := hie.mk
      have hln : lo = none := by cases lo with | none => rfl | some y => exact hlo.elim
      have hin : hi = none := by cases hi with | none => rfl | some y => exact hhi.elim
      have hmn : mx = none := by cases mx with | none => rfl | some y => exact hmx.elim
      subst hln hin hmn
      refine ⟨_, opD_lookp k (opD_plain (.sb k (.ix E1 0 i :: p) 0 l) hn fun cx w a hr => ?_), hk2⟩
      have hv : RelC cx w (.pe E1 k i p) [a.eval x] := rx cx w a hr
      generalize hv0 : a.eval x = v0 at hv
      cases hv with
      | pe hb =>
        rename_i b C
        refine ⟨.slice (some ⟨b, i * E1 + offs p, none⟩) l l, ?_, ?_⟩
        · have : ¬ l = 0 := by omega
          simp only [execOp, Instr.sliceAt, hv0, Instr.sureAddr, Instr.sliceBounds, Option.map_none, Sem.run_bind, run_underlying hu, Result.andThen_ok, run_sizeOf' hj1, Sem.run_pure, Nat.sub_zero, Nat.zero_mul, this, if_false, add_none, Nat.add_zero]
        · exact RelC.sb (cx := cx) (w := w) (p := .ix E1 0 i :: p) (off := 0) hb (Nat.le_refl _)
    · exact hk.elim
  · exact hk.elim
end
end Go.Fw
