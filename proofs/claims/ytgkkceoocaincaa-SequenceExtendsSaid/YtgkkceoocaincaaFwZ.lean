/- The executor is sound: slices. -/
import Derived.Test.YtgkkceoocaincaaFwY
import Derived.Laws.MakeOwn
import Derived.Laws.AppendOwn
namespace Go.Fw
section
variable {P : Program} {TT : Nat → TI} {n : Sz} {e : List (Nat × SV)} {h : List OB} {K : Rec → Prop}
variable {dst : Option Nat} {ty : TypeId} {pos : String} {after : Array Edge} {guard : Option (Nat × Bool)}

theorem PartsR.len {sl ps l} (h : PartsR sl ps l) : ps.length = l.length := by induction h <;> simp [*]

theorem rows_bare {cx w} {rows : List SV} (hn : noRefs rows = true) {E : Nat} {vs : List Value} (h : RelC cx w (.agg rows) vs) (hE : ∀ c ∈ rows, wd c = E) {cx' w'} (he : Ext cx w cx' w') :
    ∀ i s, rows[i]? = some s → RelC cx'.bare w' s ((vs.drop (i * E)).take E) :=
  fun i s hs => (relC_seg (noRefs_bare h hn) hE i s hs).mono he.bare

theorem s_buildSlice {t : TypeId} {m : Nat} {parts : Array (Nat × Operand)} (hT : TTok P TT) (hn : inFrame n dst = true) (hx : xOp P TT n ⟨dst, .buildSlice t m parts, ty, pos, after, guard⟩ e h K) : Goal P ⟨dst, .buildSlice t m parts, ty, pos, after, guard⟩ n e h K := by
  obtain ⟨ps, hp, hk⟩ := partsK_sound hx
  generalize hti : TT t = ti at hk
  have hd := (hT t).desc
  rw [hti] at hd
  split at hk
  · rename_i E bytes z
    obtain ⟨hb, hk⟩ := okT_iff.1 hk
    rw [Bool.and_eq_true] at hb
    have hE0 : 0 < E := by simpa using hb.1
    have hsm : m * E ≤ 16777216 := by simpa using hb.2
    obtain ⟨el, hu, hie, hz, hwz⟩ := hd
    obtain ⟨ie, hj1, hj2, _, hj4⟩ := hie.mk
    have hps0 : m = 0 → ps = [] := by
      intro hm
      subst hm
      cases ps with
      | nil => rfl
      | cons q ps =>
        exfalso
        simp only [reps, fillA, len] at hk
        split at hk
        · rename_i hh; simp at hh
        · exact hk
    obtain ⟨rows, hk, hlen, hw, hf⟩ := fillA_sound E ps (reps m z) _ hk (fun c hc => by rw [reps_mem _ _ _ hc]; exact hwz)
    rw [reps_len] at hlen
    obtain ⟨hnr, hk⟩ := okT_iff.1 hk
    refine ⟨_, opD_new (len h) (.arr E rows) (.ov E (len h) 0 m) hn (nthB_len h) fun cx w a hr => ?_, hk⟩
    have hrp := relPs_ofEval hp (cx := cx) (w := w) (a := a) (by simpa [Op.operands] using hr)
    obtain ⟨vs', e1, e2⟩ := hf cx w _ _ hrp (reps_rel hz m)
    have hvl := e2.width
    simp only [wd, wds_const hw, hlen] at hvl
    have hmk := made_cells (flat z) (by rw [flat_len hz, hwz]; exact hE0) m
    rw [flat_len hz, hwz] at hmk
    refine ⟨.slice (some ⟨w.heap.size, 0, none⟩) m m, .cells vs'.toArray el, m, ?_, fun cx' he => ?_, fun cx' he hb => ?_⟩
    · by_cases hm : m = 0
      · subst hm
        have hps : parts = #[] := by
          have h0 : ps = [] := hps0 rfl
          have := hp.len
          rw [h0] at this
          simpa using this
        subst hps
        have hv0 : vs' = [] := by simpa using hvl
        subst hv0
        simp [execOp, Instr.buildSlice, run_underlying hu, run_sizeOf' hj1, Instr.fill, newRow]
        congr 2
        apply Array.ext' 
        simp
      · have hpos : ¬ m * ie.size = 0 := by
          rw [hj2]; exact Nat.ne_of_gt (Nat.mul_pos (by omega) hE0)
        have := run_buildSlice w t el m (parts.map fun (i, x) => (i, a.eval x)) vs'.toArray ie (toVal z) hu hj1 hj4 (by rw [hj2]; omega) hpos (by
          rw [hj2, toVal_cells hz, hmk]
          exact e1)
        simp only [execOp, Sem.run_bind, this, Result.andThen_ok, Sem.run_pure]
    · exact ⟨vs', el, heap_alloc_new _ _, hvl, by omega, rows_bare hnr e2 hw he⟩
    · have := RelC.ov (cx := cx') (w := w.alloc (.cells vs'.toArray el)) (E := E) (k := len h) (off := 0) (n := m) hb (by omega)
      show RelC _ _ _ [_]
      simpa using this
  · exact hk.elim

theorem s_makeSlice {t : TypeId} {l c : Operand} (hT : TTok P TT) (hn : inFrame n dst = true) (hx : xOp P TT n ⟨dst, .makeSlice t l c, ty, pos, after, guard⟩ e h K) : Goal P ⟨dst, .makeSlice t l c, ty, pos, after, guard⟩ n e h K := by
  obtain ⟨s1, h1, hk⟩ := opd_sound hx
  obtain ⟨s2, h2, hk⟩ := opd_sound hk
  obtain ⟨kl, m, e1, hk⟩ := intOf_sound hk
  obtain ⟨kc, m2, e2, hk⟩ := intOf_sound hk
  subst e1 e2
  generalize hti : TT t = ti at hk
  have hd := (hT t).desc
  rw [hti] at hd
  split at hk
  · rename_i E bytes z
    obtain ⟨hb, hk⟩ := okT_iff.1 hk
    have hE0 : 0 < E := by simpa using hb
    obtain ⟨⟨hm0, hm2, hroom, hroom2⟩, hk2⟩ := need_iff.1 hk
    clear hk
    subst hm2
    obtain ⟨el, hu, hie, hz, hwz⟩ := hd
    obtain ⟨ie, hj1, hj2, hj3, hj4⟩ := hie.mk
    refine ⟨_, opD_new (len h) (.arr E (List.replicate m.toNat z)) (.ov E (len h) 0 m.toNat) hn (nthB_len h) fun cx w a hr => ?_, hk2⟩
    have ev1 := relV_v (h1.rel hr fun t ht => mem_slotsOf (by simp [Op.operands, ht]))
    have ev2 := relV_v (h2.rel hr fun t ht => mem_slotsOf (by simp [Op.operands, ht]))
    have hmk := made_cells (flat z) (by rw [flat_len hz, hwz]; exact hE0) m.toNat
    rw [flat_len hz, hwz] at hmk
    have hrun := run_make (P := P) w t el ie (toVal z) hu hj1 hj4 kl kc m m hm0 (Int.le_refl _) (by
      rw [hj3]
      have : ((bytes : Int)) * m = ((m.toNat * bytes : Nat) : Int) := by
        rw [Int.natCast_mul, Int.toNat_of_nonneg hm0, Int.mul_comm]
      rw [this]; omega) (by omega)
    have hcells : madeCells (toVal z).cells (m.toNat * ie.size) = (List.replicate m.toNat (flat z)).flatten.toArray := by
      rw [hj2, toVal_cells hz, ← hmk, ← hwz, ← flat_len hz]
      rfl
    rw [hcells] at hrun
    have hlen : (List.replicate m.toNat (flat z)).flatten.length = m.toNat * E := by
      simp [flat_len hz, hwz]
    refine ⟨.slice (some ⟨w.heap.size, 0, none⟩) m.toNat m.toNat, .cells (List.replicate m.toNat (flat z)).flatten.toArray el, m.toNat, by simp only [execOp, ev1, ev2, Sem.run_bind, hrun, Result.andThen_ok, Sem.run_pure], fun cx' he => ?_, fun cx' he hb => ?_⟩
    · refine ⟨_, el, heap_alloc_new _ _, hlen, by simp, fun i s hs => ?_⟩
      obtain ⟨hlt, hsz⟩ := List.getElem?_eq_some_iff.1 hs
      simp at hlt hsz
      subst hsz
      have : ((List.replicate m.toNat (flat z)).flatten.drop (i * E)).take E = flat z := by
        have e1 : List.replicate m.toNat (flat z) = List.replicate i (flat z) ++ List.replicate (m.toNat - i) (flat z) := by
          rw [List.replicate_append_replicate]; congr 1; omega
        rw [e1, List.flatten_append]
        have hli : (List.replicate i (flat z)).flatten.length = i * E := by simp [flat_len hz, hwz]
        rw [← hli, List.drop_left]
        rw [show m.toNat - i = (m.toNat - i - 1) + 1 by omega, List.replicate_succ, List.flatten_cons]
        rw [← hwz, ← flat_len hz, List.take_left]
      rw [this]
      exact okz_rel hz
    · have := RelC.ov (cx := cx') (w := w.alloc (.cells (List.replicate m.toNat (flat z)).flatten.toArray el)) (E := E) (k := len h) (off := 0) (n := m.toNat) hb (by omega)
      show RelC _ _ _ [_]
      simpa using this
  · exact hk.elim

theorem run_bound {k : IntKind} {m : Int} {y : Nat} {code : BoundsCode} {w : World} (hm : 0 ≤ m ∧ m ≤ y) : (Instr.sliceBound (.int k m) y code).run P w = .ok m.toNat w := by
  simp only [Instr.sliceBound, asIntOf, Sem.run_bind, Sem.run_pure, Result.andThen_ok, if_pos hm]

theorem isSlc_under {t : TypeId} (hT : TTok P TT) (h : isSlc (TT t) = true) : ∃ el, P.underlying t = some (.slice el) := by
  have hd := (hT t).desc
  cases hti : TT t <;> rw [hti] at h hd <;> simp only [isSlc, Bool.false_eq_true] at h
  obtain ⟨el, hu, _⟩ := hd
  exact ⟨el, hu⟩

def BoundR (s : Option SV) (d : Nat) (m : Int) : Prop := match s with | none => m = d | some s => ∃ k, s = .v (.int k m)
theorem bound_sound {s : Option SV} {d : Nat} {K : Int → Prop} (h : bound s d K) : ∃ m : Int, K m ∧ BoundR s d m := by
  cases s with
  | none => exact ⟨d, h, rfl⟩
  | some s =>
    obtain ⟨k, m, rfl, h⟩ := intOf_sound h
    exact ⟨m, h, k, rfl⟩

theorem Tg.ok_nil {t : Tg} {a : Option Addr} {cap : Nat} (h : t.ok a cap) {c : Option Nat} (hc : ∀ x, c = some x → x = 0) : Tg.ok ⟨c, t.nn⟩ a 0 := ⟨h.1, fun x hx => (hc x hx).symm⟩
/-- A part of a shared slice. -/
theorem fs_part {cx : Cx} {w : World} {t : Tg} {E : Nat} {rows : List SV} {a : Option Addr} {len cap l u m : Nat} (hr : RelC cx w (.fs t E rows) [.slice a len cap])
    (hl : l ≤ u) (hu : u ≤ rows.length) (hm : u ≤ m) (hmc : m ≤ cap) (c : Option Nat) (ht : ∀ x, c = some x → (∀ y, t.cap = some y → cap = y) → m - l = x) :
    RelC cx w (.fs ⟨c, t.nn⟩ E ((rows.drop l).take (u - l))) [.slice (if m = l then a else a.map (·.add (l * E))) (u - l) (m - l)] := by
  cases hr with
  | fs0 ho =>
    simp at hu
    subst hu
    obtain rfl : l = 0 := by omega
    obtain rfl : m = 0 := by omega
    exact .fs0 (Tg.ok_nil ho fun x hx => (ht x hx ho.2).symm)
  | fs f hb hO hc htt hrows hlen hcell =>
    rename_i b off cs T fz
    by_cases hml : m = l
    · subst hml
      obtain rfl : m = u := by omega
      simp only [Nat.sub_self, List.take_zero, if_true]
      exact .fs0 (Tg.ok_nil htt fun x hx => by have := ht x hx htt.2; omega)
    · simp only [if_neg hml, Option.map_some, add_none]
      have hlen' : ((rows.drop l).take (u - l)).length = u - l := by simp; omega
      have := RelC.fs (cx := cx) (w := w) (t := ⟨c, t.nn⟩) (E := E) (rows := (rows.drop l).take (u - l)) (off := off + l * E) (cap := m - l) (fun i => f (i + l)) hb hO (by rw [hlen']; omega)
        ⟨fun _ h => (by cases h), fun x hx => ht x hx htt.2⟩
        (fun i s hs => by
          simp only [List.getElem?_take, List.getElem?_drop] at hs
          split at hs
          · exact hrows (i + l) s (by rw [Nat.add_comm]; exact hs)
          · cases hs)
        (fun i hi => hlen (i + l) (by rw [hlen'] at hi; omega))
        (fun i hi j x hj => by
          rw [hlen'] at hi
          have := hcell (i + l) (by omega) j x hj
          rw [Nat.add_mul] at this
          rw [← this]; congr 1; omega)
      rw [hlen'] at this
      exact this

theorem cut_cap {t : Tg} {cap : Nat} (l : Nat) : ∀ x, t.cap.map (· - l) = some x → (∀ y, t.cap = some y → cap = y) → cap - l = x := by
  intro x hx hy
  cases hc : t.cap with
  | none => rw [hc] at hx; cases hx
  | some y =>
    rw [hc] at hx
    simp only [Option.map_some, Option.some.injEq] at hx
    have := hy y hc
    omega

theorem opD_lookp {o : Oper} {sl : Nat → Option SV} {hp : Nat → Option OB} {s : SV} (k : Nat) (h : OpD P o n sl hp (.plain o s)) : OpD P o n sl hp (.look o k s) :=
  fun sl' hp' ha => h sl' hp' (by
    simp only [Agree, Rec.look, Rec.plain, Bool.false_eq_true, if_false] at ha ⊢
    exact ⟨ha.1, fun k hk => by cases hk⟩)

theorem run_slice (w : World) (ρ : Operand → Value) (t : TypeId) (el : TypeId) (ie : TypeInfo) (a0 : Option Addr) (len cap l u m : Nat) (x : Operand) (lo hi mx : Option Operand)
    (hu : P.underlying t = some (.slice el)) (hie : P.info? el = some ie) (he : ρ x = .slice a0 len cap)
    (ho : lo = none ∧ l = 0 ∨ ∃ y k, lo = some y ∧ ρ y = .int k l) (hh : hi = none ∧ mx = none ∧ u = len ∨ ∃ y k, hi = some y ∧ ρ y = .int k u)
    (hm : mx = none ∧ m = cap ∨ ∃ y k, mx = some y ∧ ρ y = .int k m) (h1 : l ≤ u) (h2 : u ≤ m) (h3 : m ≤ cap) :
    (execOp ρ ⟨dst, .slice t x lo hi mx, ty, pos, after, guard⟩).run P w = .ok (.value (.slice (if m = l then a0 else a0.map (·.add (l * ie.size))) (u - l) (m - l))) w := by
  have bl : ∀ k code, (Instr.sliceBound (.int k (l : Int)) u code).run P w = .ok l w := fun k code => by rw [run_bound ⟨by omega, by omega⟩]; simp
  have bu : ∀ k code, (Instr.sliceBound (.int k (u : Int)) m code).run P w = .ok u w := fun k code => by rw [run_bound ⟨by omega, by omega⟩]; simp
  have bm : ∀ k code, (Instr.sliceBound (.int k (m : Int)) cap code).run P w = .ok m w := fun k code => by rw [run_bound ⟨by omega, by omega⟩]; simp
  have hsl : (Instr.sliceBounds true len cap (lo.map ρ) (hi.map ρ) (mx.map ρ)).run P w = .ok (l, u, m) w := by
    rcases ho with ⟨rfl, rfl⟩ | ⟨y1, k1, rfl, e1⟩ <;> rcases hm with ⟨rfl, rfl⟩ | ⟨y3, k3, rfl, e3⟩ <;> rcases hh with ⟨rfl, h4, rfl⟩ | ⟨y2, k2, rfl, e2⟩ <;> first
      | (cases h4; done)
      | (simp only [Instr.sliceBounds, Option.map_some, Option.map_none, *, Sem.run_bind, Sem.run_pure, Result.andThen_ok]; done)
      | (simp [Instr.sliceBounds, *]; done)
  simp only [execOp, Instr.sliceAt, he, Instr.slice, Sem.run_bind, run_underlying hu, Result.andThen_ok, hsl, run_sizeOf' hie, Sem.run_pure]

theorem opt_ev {sl : Nat → Option SV} {o : Option Operand} {so : Option SV} {m : Int} {d : Nat} (ho : OptR sl o so) (hs : BoundR so d m) (h0 : 0 ≤ m)
    {ts : List Nat} (hmem : ∀ t, o = some (.tmp t) → t ∈ ts) {cx : Cx} {w : World} {a : Act} (hr : Reads sl ts cx w a) :
    (o = none ∧ so = none ∧ m = d) ∨ ∃ y k, o = some y ∧ so.isSome = true ∧ a.eval y = .int k (m.toNat : Int) := by
  cases o with
  | none => cases so with
    | none => exact .inl ⟨rfl, rfl, hs⟩
    | some s => exact ho.elim
  | some y => cases so with
    | none => exact ho.elim
    | some s =>
      obtain ⟨k, rfl⟩ := hs
      refine .inr ⟨y, k, rfl, rfl, ?_⟩
      rw [Int.toNat_of_nonneg h0]
      exact relV_v (OpdR.rel ho hr fun t ht => hmem t (by rw [ht]))

theorem fs_slice {cx w t E rows v} (h : RelC cx w (.fs t E rows) [v]) : ∃ a0 cap, v = .slice a0 rows.length cap ∧ rows.length ≤ cap := by
  cases h with
  | fs0 => exact ⟨_, _, rfl, Nat.le_refl _⟩
  | fs f _ _ hc => exact ⟨_, _, rfl, hc⟩

theorem s_slice {t : TypeId} {x : Operand} {lo hi mx : Option Operand} (hT : TTok P TT) (hn : inFrame n dst = true) (hx : xOp P TT n ⟨dst, .slice t x lo hi mx, ty, pos, after, guard⟩ e h K) : Goal P ⟨dst, .slice t x lo hi mx, ty, pos, after, guard⟩ n e h K := by
  obtain ⟨sx, h1, hk1⟩ := opd_sound hx
  obtain ⟨slo, hlo, hk2⟩ := opdo_sound hk1
  obtain ⟨shi, hhi, hk3⟩ := opdo_sound hk2
  obtain ⟨smx, hmx, hk⟩ := opdo_sound hk3
  clear hx hk1 hk2 hk3
  have rx : ∀ (cx : Cx) (w : World) (a : Act), Reads (lk e) (slotsOf (Op.slice t x lo hi mx).operands.toList) cx w a → RelV cx w sx (a.eval x) := fun cx w a hr =>
    h1.rel hr fun t ht => mem_slotsOf (by simp [Op.operands, ht])
  have mlo : ∀ u, lo = some (.tmp u) → u ∈ slotsOf (Op.slice t x lo hi mx).operands.toList := fun u hy => mem_slotsOf (by subst hy; simp [Op.operands])
  have mhi : ∀ u, hi = some (.tmp u) → u ∈ slotsOf (Op.slice t x lo hi mx).operands.toList := fun u hy => mem_slotsOf (by subst hy; simp [Op.operands])
  have mmx : ∀ u, mx = some (.tmp u) → u ∈ slotsOf (Op.slice t x lo hi mx).operands.toList := fun u hy => mem_slotsOf (by subst hy; simp [Op.operands])
  clear h1
  have hd := (hT t).desc
  unfold execSlice at hk
  generalize TT t = ti at hk hd
  split at hk
  · rename_i E0 bytes z t0 E rows
    obtain ⟨hE, hk1⟩ := okT_iff.1 hk
    have hE := Nat.eq_of_beq_eq_true hE
    subst hE
    obtain ⟨el, hu, hie, _⟩ := hd
    obtain ⟨ie, hj1, hj2, _, _⟩ := hie.mk
    obtain ⟨l, hk2, bl⟩ := bound_sound hk1
    obtain ⟨u, hk3, bu⟩ := bound_sound hk2
    clear hk hk1 hk2
    split at hk3
    · obtain ⟨⟨c1, c2, c3⟩, hk⟩ := need_iff.1 hk3
      refine ⟨_, opD_plain _ hn fun cx w a hr => ?_, hk⟩
      have hv : RelC cx w (.fs t0 E0 rows) [a.eval x] := rx cx w a hr
      obtain ⟨a0, cap, he, hcap⟩ := fs_slice hv
      have el1 := opt_ev hlo bl c1 mlo hr
      simp only [BoundR] at bu
      have hmn : mx = none := by cases mx with | none => rfl | some y => exact hmx.elim
      have hin : hi = none := by cases hi with | none => rfl | some y => exact hhi.elim
      have hrun := run_slice (dst := dst) (ty := ty) (pos := pos) (after := after) (guard := guard) w a.eval t el ie a0 rows.length cap l.toNat u.toNat cap x lo hi mx hu hj1 he
        (el1.imp (fun ⟨h1, _, h2⟩ => ⟨h1, by omega⟩) (fun ⟨y, k, h1, _, h2⟩ => ⟨y, k, h1, h2⟩)) (.inl ⟨hin, hmn, by omega⟩) (.inl ⟨hmn, rfl⟩) (by omega) (by omega) (Nat.le_refl _)
      refine ⟨_, hrun, ?_⟩
      rw [he] at hv
      rw [hj2]
      exact fs_part hv (by omega) (by omega) (by omega) (Nat.le_refl _) _ (cut_cap _)
    · rename_i s0
      obtain ⟨⟨c1, c2, c3⟩, hk⟩ := need_iff.1 hk3
      refine ⟨_, opD_plain _ hn fun cx w a hr => ?_, hk⟩
      have hv : RelC cx w (.fs t0 E0 rows) [a.eval x] := rx cx w a hr
      obtain ⟨a0, cap, he, hcap⟩ := fs_slice hv
      have el1 := opt_ev hlo bl c1 mlo hr
      have eh1 := opt_ev hhi bu (by omega) mhi hr
      have hmn : mx = none := by cases mx with | none => rfl | some y => exact hmx.elim
      have hrun := run_slice (dst := dst) (ty := ty) (pos := pos) (after := after) (guard := guard) w a.eval t el ie a0 rows.length cap l.toNat u.toNat cap x lo hi mx hu hj1 he
        (el1.imp (fun ⟨h1, _, h2⟩ => ⟨h1, by omega⟩) (fun ⟨y, k, h1, _, h2⟩ => ⟨y, k, h1, h2⟩)) (eh1.elim (fun ⟨_, h, _⟩ => by cases h) (fun ⟨y, k, h1, _, h2⟩ => .inr ⟨y, k, h1, h2⟩)) (.inl ⟨hmn, rfl⟩) (by omega) (by omega) (Nat.le_refl _)
      refine ⟨_, hrun, ?_⟩
      rw [he] at hv
      rw [hj2]
      exact fs_part hv (by omega) (by omega) (by omega) (Nat.le_refl _) _ (cut_cap _)
    · rename_i m0 s0
      obtain ⟨km, m, hm0, hk4⟩ := intOf_sound hk3
      subst hm0
      obtain ⟨⟨c1, c2, c3, c4⟩, hk⟩ := need_iff.1 hk4
      refine ⟨_, opD_plain _ hn fun cx w a hr => ?_, hk⟩
      have hv : RelC cx w (.fs t0 E0 rows) [a.eval x] := rx cx w a hr
      obtain ⟨a0, cap, he, hcap⟩ := fs_slice hv
      have el1 := opt_ev hlo bl c1 mlo hr
      have eh1 := opt_ev hhi bu (by omega) mhi hr
      have em1 := opt_ev (m := m) (d := 0) hmx ⟨km, rfl⟩ (by omega) mmx hr
      have hrun := run_slice (dst := dst) (ty := ty) (pos := pos) (after := after) (guard := guard) w a.eval t el ie a0 rows.length cap l.toNat u.toNat m.toNat x lo hi mx hu hj1 he
        (el1.imp (fun ⟨h1, _, h2⟩ => ⟨h1, by omega⟩) (fun ⟨y, k, h1, _, h2⟩ => ⟨y, k, h1, h2⟩)) (eh1.elim (fun ⟨_, h, _⟩ => by cases h) (fun ⟨y, k, h1, _, h2⟩ => .inr ⟨y, k, h1, h2⟩))
        (em1.elim (fun ⟨_, h, _⟩ => by cases h) (fun ⟨y, k, h1, _, h2⟩ => .inr ⟨y, k, h1, h2⟩)) (by omega) (by omega) (by omega)
      refine ⟨_, hrun, ?_⟩
      rw [he] at hv
      rw [hj2]
      exact fs_part hv (by omega) (by omega) (by omega) (by omega) _ fun x hx _ => by cases hx; omega
    · exact hk3.elim
  · rename_i E0 bytes z E k off len
    obtain ⟨hE, hk1⟩ := okT_iff.1 hk
    have hE := Nat.eq_of_beq_eq_true hE
    subst hE
    obtain ⟨el, hu, hie, _⟩ := hd
    obtain ⟨ie, hj1, hj2, _, _⟩ := hie.mk
    clear hk
    split at hk1
    · exact hk1.elim
    · obtain ⟨l, hk2, bl⟩ := bound_sound hk1
      obtain ⟨u, hk3, bu⟩ := bound_sound hk2
      clear hk1 hk2
      obtain ⟨⟨c1, c2, c3⟩, hk⟩ := need_iff.1 hk3
      have hmn : mx = none := by cases mx with | none => rfl | some y => exact hmx.elim
      refine ⟨_, opD_lookp k (opD_plain (.ov E0 k (off + l.toNat) (u.toNat - l.toNat)) hn fun cx w a hr => ?_), hk⟩
      · have hv : RelC cx w (.ov E0 k off len) [a.eval x] := rx cx w a hr
        have el1 := opt_ev hlo bl c1 mlo hr
        have eh1 := opt_ev hhi bu (by omega) mhi hr
        have go : ∀ a0 cap, a.eval x = .slice a0 len cap → len ≤ cap → (execOp a.eval ⟨dst, .slice t x lo hi mx, ty, pos, after, guard⟩).run P w =
            .ok (.value (.slice (if cap = l.toNat then a0 else a0.map (·.add (l.toNat * ie.size))) (u.toNat - l.toNat) (cap - l.toNat))) w := fun a0 cap he hc =>
          run_slice w a.eval t el ie a0 len cap l.toNat u.toNat cap x lo hi mx hu hj1 he
            (el1.imp (fun ⟨h1, _, h2⟩ => ⟨h1, by omega⟩) (fun ⟨y, k, h1, _, h2⟩ => ⟨y, k, h1, h2⟩)) (eh1.imp (fun ⟨h1, _, h2⟩ => ⟨h1, hmn, by omega⟩) (fun ⟨y, k, h1, _, h2⟩ => ⟨y, k, h1, h2⟩)) (.inl ⟨hmn, rfl⟩) (by omega) (by omega) (Nat.le_refl _)
        generalize hv0 : a.eval x = v0 at hv
        cases hv with
        | ov hb hC =>
          rename_i b C
          refine ⟨_, go _ _ hv0 (by omega), ?_⟩
          show RelC _ _ _ [_]
          by_cases hcl : C - off = l.toNat
          · rw [if_pos hcl]
            have hul : u.toNat - l.toNat = 0 := by omega
            have hc0 : C - off - l.toNat = 0 := by omega
            rw [hul, hc0, show off + l.toNat = C by omega]
            exact .ovz hb
          · rw [if_neg hcl, Option.map_some, add_none, hj2, ← Nat.add_mul, Nat.sub_sub]
            exact .ov hb (by omega)
        | ov0 hb =>
          refine ⟨_, go _ _ hv0 (by omega), ?_⟩
          show RelC _ _ _ [_]
          have : l.toNat = 0 := by omega
          have h2 : u.toNat = 0 := by omega
          simp only [this, h2, if_true]
          exact .ov0 hb
        | ovz hb =>
          refine ⟨_, go _ _ hv0 (by omega), ?_⟩
          show RelC _ _ _ [_]
          have : l.toNat = 0 := by omega
          have h2 : u.toNat = 0 := by omega
          simp only [this, h2, if_true]
          exact .ovz hb
  · rename_i l E el z k p
    unfold sliceBox at hk
    split at hk
    · obtain ⟨hb, hk2⟩ := okT_iff.1 hk
      clear hk
      rw [Bool.and_eq_true] at hb
      have hE := Nat.eq_of_beq_eq_true hb.1
      subst hE
      have hl : 0 < l := by simpa using hb.2
      obtain ⟨hu, ⟨b', z', hie⟩, _⟩ := hd
      obtain ⟨ie, hj1, hj2, _, _⟩ := hie.mk
      have hln : lo = none := by cases lo with | none => rfl | some y => exact hlo.elim
      have hin : hi = none := by cases hi with | none => rfl | some y => exact hhi.elim
      have hmn : mx = none := by cases mx with | none => rfl | some y => exact hmx.elim
      subst hln hin hmn
      refine ⟨_, opD_lookp k (opD_plain (.sb k p 0 l) hn fun cx w a hr => ?_), hk2⟩
      · have hv : RelC cx w (.pb k p) [a.eval x] := rx cx w a hr
        generalize hv0 : a.eval x = v0 at hv
        cases hv with
        | pb hb =>
          rename_i b C
          refine ⟨.slice (some ⟨b, offs p, none⟩) l l, ?_, .sb (off := 0) hb (Nat.le_refl _)⟩
          have : ¬ l = 0 := by omega
          simp only [execOp, Instr.sliceAt, hv0, Instr.sureAddr, Instr.sliceBounds, Option.map_none, Sem.run_bind, run_underlying hu, Result.andThen_ok, run_sizeOf' hj1, Sem.run_pure, Nat.sub_zero, Nat.zero_mul, this, if_false, add_none, Nat.add_zero]
    · exact hk.elim
  · exact hk.elim
end
end Go.Fw
