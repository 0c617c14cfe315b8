/- What comes in: an argument that reads as data of a type has a shape, and stands in the relation to it. -/
import Derived.Test.YtgkkceoocaincaaFwAM
import Derived.ChangeArms
import Derived.OpenShut
import Derived.WideKeyArgs
import Derived.Handed
import Derived.ProofKit
namespace Go.Fw
open Go.ChangeShapes Go.RowKit

/-- A value of a type, as it comes in. -/
def Shp (P : Program) (TT : Nat → TI) : Nat → Nat → SV → Prop
  | 0, _, _ => False
  | d + 1, t, s => match TT t with
    | .int k => ∃ n, s = .v (.int k n) ∧ (Lit.int k n).wf = true
    | .bool => ∃ b, s = .v (.bool b)
    | .slc E _ _ => ∃ rows, s = .fs .no E rows ∧ rows.length ≤ maxLen ∧ ∀ e, P.underlying t = some (.slice e) → ∀ r ∈ rows, Shp P TT d e r
    | .arr n _ el _ => match TT el with
      | .int .u8 => ∃ l, s = .ba n l ∧ l.length = n ∧ ∀ x ∈ l, 0 ≤ x ∧ x ≤ 255
      | _ => ∃ cs, s = .agg cs ∧ cs.length = n ∧ ∀ c ∈ cs, Shp P TT d el c
    | .str _ ft _ => ∃ cs, s = .agg cs ∧ cs.length = ft.length ∧ ∀ (i : Nat) u c, ft[i]? = some u → cs[i]? = some c → Shp P TT d u c
    | _ => False
/-- The types within are known. -/
def deepT (P : Program) (TT : Nat → TI) : Nat → Nat → Bool
  | 0, _ => false
  | d + 1, t => match TT t with
    | .int _ => true
    | .bool => true
    | .slc E _ _ => Nat.blt 0 E && (match P.underlying t with | some (.slice e) => deepT P TT d e | _ => false)
    | .arr n E el z => Nat.beq (wd z) (n * E) && deepT P TT d el
    | .str _ ft _ => !ft.isEmpty && ft.all (deepT P TT d)
    | _ => false

section
variable {H : Type} {enc : TypeId × Value → H} {P : Program} {TT : Nat → TI} {w : World} {base : Nat}

theorem listOf {α β : Type} {Q : Nat → α → β → Prop} : ∀ (n : Nat), (∀ i, i < n → ∃ a b, Q i a b) → ∃ (l : List α) (m : List β), l.length = n ∧ m.length = n ∧ ∀ i a b, l[i]? = some a → m[i]? = some b → Q i a b
  | 0, _ => ⟨[], [], rfl, rfl, fun i a b h => by simp at h⟩
  | n + 1, h => by
    obtain ⟨l, m, h1, h2, h3⟩ := listOf (Q := Q) n (fun i hi => h i (by omega))
    obtain ⟨a, b, hab⟩ := h n (by omega)
    refine ⟨l ++ [a], m ++ [b], by simp [h1], by simp [h2], fun i x y hx hy => ?_⟩
    rcases Nat.lt_trichotomy i n with hi | hi | hi
    · rw [List.getElem?_append_left (by omega)] at hx hy
      exact h3 i x y hx hy
    · subst hi
      rw [List.getElem?_append_right (by omega)] at hx hy
      simp [h1] at hx
      simp [h2] at hy
      subst hx hy
      exact hab
    · rw [List.getElem?_eq_none (by simp; omega)] at hx
      cases hx

theorem relC_pieces {cx : Cx} {w : World} : ∀ (ss : List SV) (cs : List Value), (∀ (i : Nat) s, ss[i]? = some s → RelC cx w s ((cs.drop (wds (ss.take i))).take (wd s))) → cs.length = wds ss → RelC cx w (.agg ss) cs
  | [], cs, _, hl => by
    have : cs = [] := List.length_eq_zero_iff.1 (by simpa [wds] using hl)
    subst this; exact .nil
  | s :: ss, cs, h, hl => by
    have h0 := h 0 s rfl
    simp only [List.take_zero, wds, List.drop_zero] at h0
    have hrest := relC_pieces ss (cs.drop (wd s)) (fun i u hu => by
      have := h (i + 1) u (by simpa using hu)
      simpa [wds, List.drop_drop] using this) (by simp [wds] at hl ⊢; omega)
    have := RelC.cons h0 hrest
    rwa [List.take_append_drop] at this

theorem cells_get {a : Addr} {n : Nat} {vs : List Value} (h : w.cells? 0 a n = some vs) : vs.length = n ∧ ∀ (j : Nat) x, vs[j]? = some x → w.cell? (a.add j) = some x := by
  unfold World.cells? at h
  rw [if_pos (Nat.zero_le _)] at h
  refine ⟨by simpa using mapM_some_length h, fun j x hx => ?_⟩
  have hj : j < n := by
    have := (List.getElem?_eq_some_iff.1 hx).1
    have := mapM_some_length h
    simp at this; omega
  rw [mapM_some_get h j j (by simp [hj]), hx]
theorem spot_none {a : Addr} {x : Value} (h : w.cell? a = some x) : a = ⟨a.block, a.off, none⟩ ∧ ∃ cs T fz, w.heap[a.block]? = some (.cells cs T fz) := by
  unfold World.cell? at h
  split at h
  · rename_i c T fz hc
    split at h
    · cases h
    · rename_i hs
      obtain ⟨b, o, sp⟩ := a
      cases sp with
      | none => exact ⟨rfl, _, _, _, hc⟩
      | some x => simp at hs
  · cases h

theorem bytes_of : ∀ (ss : List SV), (∀ c ∈ ss, ∃ x, c = .v (.int .u8 x) ∧ (Lit.int .u8 x).wf = true) → ∃ l : List Int, ss = l.map (fun x => .v (.int .u8 x)) ∧ ∀ x ∈ l, 0 ≤ x ∧ x ≤ 255
  | [], _ => ⟨[], rfl, fun _ h => by cases h⟩
  | c :: r, h => by
    obtain ⟨x, rfl, hx⟩ := h c (by simp)
    obtain ⟨l, rfl, hl⟩ := bytes_of r fun c hc => h c (by simp [hc])
    refine ⟨x :: l, rfl, fun y hy => ?_⟩
    rcases List.mem_cons.1 hy with rfl | hy
    · exact bounds_u8 hx
    · exact hl y hy
theorem relC_bytes {cx : Cx} {w : World} : ∀ (l : List Int) (cs : List Value), RelC cx w (.agg (l.map fun x => .v (.int .u8 x))) cs → cs = l.map fun x => .int .u8 x
  | [], cs, h => by cases h; rfl
  | x :: l, cs, h => by
    obtain ⟨us, ws, rfl, h1, h2⟩ := h.agg_inv
    cases h1
    rw [relC_bytes l ws h2]; rfl
theorem layout_of : ∀ (zs ss : List SV), zs.map wd = ss.map wd → ∀ i, wds (zs.take i) = wds (ss.take i)
  | [], [], _, i => by simp
  | [], _ :: _, h, _ => by simp at h
  | _ :: _, [], h, _ => by simp at h
  | z :: zs, s :: ss, h, 0 => by simp
  | z :: zs, s :: ss, h, i + 1 => by
    simp only [List.map_cons, List.cons.injEq] at h
    simp [wds, h.1, layout_of zs ss h.2 i]
theorem wds_map : ∀ (zs ss : List SV), zs.map wd = ss.map wd → wds zs = wds ss
  | [], [], _ => rfl
  | [], _ :: _, h => by simp at h
  | _ :: _, [], h => by simp at h
  | z :: zs, s :: ss, h => by
    simp only [List.map_cons, List.cons.injEq] at h
    simp [wds, h.1, wds_map zs ss h.2]

theorem open_trod (hT : TTok P TT) : ∀ (d t : Nat) (cs : List Value) (fuel : Nat) (x : DataW H × List MemPlace), deepT P TT d t = true → DataW.trod enc P w 0 (fun _ => true) true fuel t cs = some x →
    ∃ s, Shp P TT d t s ∧ RelC ⟨fun _ => none, fun _ => False⟩ w s cs ∧ wd s = P.cellsOf t
  | 0, _, _, _, _, h, _ => by cases h
  | d + 1, t, cs, fuel, x, hd, hx => by
    have ht := hT t
    have hne : TT t ≠ .none := fun e => by simp [deepT, e] at hd
    obtain ⟨⟨by_, hi⟩, hz⟩ := ht.info hne
    obtain ⟨inf, hi1, hi2, _, _⟩ := hi.mk
    have hcell : P.cellsOf t = wd (TT t).zero := by simp [Program.cellsOf, hi1, hi2]
    have hdesc := ht.desc
    simp only [deepT] at hd
    simp only [Shp]
    generalize hti : TT t = ti at *
    cases ti with
    | int k =>
      obtain ⟨n, rfl, _, hwf⟩ := DataW.trod_int hdesc hx
      exact ⟨_, ⟨n, rfl, hwf⟩, .v rfl, by rw [hcell]; rfl⟩
    | bool =>
      obtain ⟨b, rfl, _⟩ := DataW.trod_bool hdesc hx
      exact ⟨_, ⟨b, rfl⟩, .v rfl, by rw [hcell]; rfl⟩
    | slc E bytes z =>
      obtain ⟨e, hu, hie, hzz, hwz⟩ := hdesc
      obtain ⟨ie, hj1, hj2, _, _⟩ := hie.mk
      have hce : P.cellsOf e = E := by simp [Program.cellsOf, hj1, hj2]
      rw [hu] at hd
      simp only [Bool.and_eq_true] at hd
      obtain ⟨hE, hde⟩ := hd
      have hE : 0 < E := by simpa using hE
      rcases DataW.trod_slice hu hx with ⟨rfl, _⟩ | ⟨a, len, cap, elems, rest, n, _, rfl, _, _, hlc, hcm, hel, hget, hrest, _⟩
      · exact ⟨_, ⟨[], rfl, by simp, fun _ _ r hr => by cases hr⟩, .fs0 Tg.ok_no, by rw [hcell]; rfl⟩
      · have hone : ∀ i, i < len → ∃ s vs, Shp P TT d e s ∧ RelC ⟨fun _ => none, fun _ => False⟩ w s vs ∧ vs.length = E ∧ ∀ (j : Nat) x, vs[j]? = some x → w.cell? ((a.add (i * E)).add j) = some x := by
          intro i hi
          have h1 := hget i hi
          rw [hce, List.getElem?_eq_getElem (by omega), Option.bind_eq_some_iff] at h1
          obtain ⟨vs, h2, h3⟩ := h1
          obtain ⟨h4, h5⟩ := cells_get h2
          obtain ⟨s, h6, h7, _⟩ := open_trod hT d e vs n _ hde h3
          exact ⟨s, vs, h6, h7, h4, h5⟩
        by_cases hc0 : cap = 0
        · subst hc0
          obtain rfl : len = 0 := by omega
          exact ⟨_, ⟨[], rfl, by simp, fun _ _ r hr => by cases hr⟩, .fs0 Tg.ok_no, by rw [hcell]; rfl⟩
        · have hfirst : ∃ x, w.cell? (a.add 0) = some x := by
            by_cases hl0 : len = 0
            · subst hl0
              have h1 := (hrest rfl).2 0 (by omega)
              have hlen := (hrest rfl).1
              rw [hce, List.getElem?_eq_getElem (by omega), Option.bind_eq_some_iff] at h1
              obtain ⟨vs, h2, _⟩ := h1
              obtain ⟨h4, h5⟩ := cells_get h2
              refine ⟨vs[0], ?_⟩
              have := h5 0 vs[0] (List.getElem?_eq_getElem (by omega))
              simpa [Addr.add] using this
            · obtain ⟨s, vs, _, _, h4, h5⟩ := hone 0 (by omega)
              refine ⟨vs[0], ?_⟩
              have := h5 0 vs[0] (List.getElem?_eq_getElem (by omega))
              simpa [Addr.add] using this
          obtain ⟨x0, hx0⟩ := hfirst
          have hx0 : w.cell? a = some x0 := by simpa [Addr.add] using hx0
          obtain ⟨ha, cs, T, fz, hb⟩ := spot_none hx0
          obtain ⟨rows, vss, hr1, hr2, hr3⟩ := listOf len hone
          rw [ha]
          refine ⟨.fs .no E rows, ⟨rows, rfl, by rw [hr1]; omega, fun e' he' r hr => ?_⟩, ?_, by rw [hcell]; rfl⟩
          · rw [hu] at he'
            simp only [Option.some.injEq, TypeDesc.slice.injEq] at he'
            subst he'
            obtain ⟨i, hi⟩ := List.mem_iff_getElem?.1 hr
            have hil := (List.getElem?_eq_some_iff.1 hi).1
            exact (hr3 i r _ hi (List.getElem?_eq_getElem (by omega))).1
          · have := RelC.fs (cx := ⟨fun _ => none, fun _ => False⟩) (w := w) (t := .no) (E := E) (rows := rows) (off := a.off) (cap := cap) (fun i => (vss[i]?).getD []) hb (fun h => h) (by omega) Tg.ok_no
              (fun i s hs => by
                have hil := (List.getElem?_eq_some_iff.1 hs).1
                have hv := List.getElem?_eq_getElem (l := vss) (i := i) (by omega)
                simp only [hv, Option.getD_some]
                exact (hr3 i s _ hs hv).2.1)
              (fun i hi => by
                have hv := List.getElem?_eq_getElem (l := vss) (i := i) (by omega)
                simp only [hv, Option.getD_some]
                exact (hr3 i _ _ (List.getElem?_eq_getElem (by omega)) hv).2.2.1)
              (fun i hi j x hj => by
                have hv := List.getElem?_eq_getElem (l := vss) (i := i) (by omega)
                simp only [hv, Option.getD_some] at hj
                have := (hr3 i _ _ (List.getElem?_eq_getElem (by omega)) hv).2.2.2 j x hj
                rw [ha, add_none, add_none, cell_of hb] at this
                exact this)
            rw [hr1] at this
            exact this
    | arr n E el z =>
      obtain ⟨hu, ⟨b', z', hie⟩, _⟩ := hdesc
      obtain ⟨ie, hj1, hj2, _, _⟩ := hie.mk
      have hce : P.cellsOf el = E := by simp [Program.cellsOf, hj1, hj2]
      obtain ⟨xs, m, _, _, hlen, hxl, hget⟩ := DataW.trod_array hu hx
      have hone : ∀ i, i < n → ∃ (s : SV) (_ : Unit), Shp P TT d el s ∧ RelC ⟨fun _ => none, fun _ => False⟩ w s ((cs.drop (i * E)).take E) ∧ wd s = E := by
        intro i hi
        have h1 := hget i hi
        rw [hce, List.getElem?_eq_getElem (by omega)] at h1
        obtain ⟨s, h6, h7, h8⟩ := open_trod hT d el _ m _ (by simp only [Bool.and_eq_true] at hd; exact hd.2) h1
        exact ⟨s, (), h6, h7, h8.trans hce⟩
      obtain ⟨ss, us, hs1, hs2, hs3⟩ := listOf n hone
      have hs3 : ∀ (i : Nat) s, ss[i]? = some s → Shp P TT d el s ∧ RelC ⟨fun _ => none, fun _ => False⟩ w s ((cs.drop (i * E)).take E) ∧ wd s = E := fun i s hs => by
        have := (List.getElem?_eq_some_iff.1 hs).1
        exact hs3 i s _ hs (List.getElem?_eq_getElem (by omega))
      have hall : ∀ c ∈ ss, wd c = E := fun c hc => by
        obtain ⟨i, hi⟩ := List.mem_iff_getElem?.1 hc
        exact (hs3 i c hi).2.2
      have hd0 := hd
      simp only [Bool.and_eq_true] at hd
      have hzw := Nat.eq_of_beq_eq_true hd.1
      have hcl : cs.length = n * E := by rw [hlen, hcell]; exact hzw
      have hwds : wds ss = n * E := by rw [wds_const hall, hs1]
      have hagg : RelC ⟨fun _ => none, fun _ => False⟩ w (.agg ss) cs := relC_pieces ss cs (fun i s hs => by
        have hil := (List.getElem?_eq_some_iff.1 hs).1
        rw [wds_all E ss (by simpa [Nat.beq_eq] using hall) i (by omega), (hs3 i s hs).2.2]
        exact (hs3 i s hs).2.1) (by rw [hcl, hwds])
      have hwt : wd (.agg ss) = P.cellsOf t := by
        rw [hcell]
        show wds ss = wd z
        rw [hwds, hzw]
      cases hel : TT el with
      | int k =>
        cases k with
        | u8 =>
          obtain ⟨l, hl, hb⟩ := bytes_of ss fun c hc => by
            obtain ⟨i, hi⟩ := List.mem_iff_getElem?.1 hc
            have := (hs3 i c hi).1
            cases d with
            | zero => exact this.elim
            | succ d => simpa [Shp, hel] using this
          have hln : l.length = n := by rw [← hs1, hl]; simp
          rw [hl] at hagg
          have hcs := relC_bytes l cs hagg
          refine ⟨.ba n l, (by simp only [hel]; exact ⟨l, rfl, hln, hb⟩), by rw [hcs]; exact .ba hln, ?_⟩
          have : wds ss = n := by rw [hl, wds_const (E := 1) (fun c hc => by obtain ⟨x, _, rfl⟩ := List.mem_map.1 hc; rfl)]; simp [hln]
          rw [← hwt]
          show n = wds ss
          exact this.symm
        | _ => exact ⟨.agg ss, (by simp only [hel]; exact ⟨ss, rfl, hs1, fun c hc => by obtain ⟨i, hi⟩ := List.mem_iff_getElem?.1 hc; exact (hs3 i c hi).1⟩), hagg, hwt⟩
      | _ => exact ⟨.agg ss, (by simp only [hel]; exact ⟨ss, rfl, hs1, fun c hc => by obtain ⟨i, hi⟩ := List.mem_iff_getElem?.1 hc; exact (hs3 i c hi).1⟩), hagg, hwt⟩
    | str fs ft z =>
      obtain ⟨hs, ⟨zc, hzc, hfs⟩, hrest⟩ := hdesc
      simp only [Bool.and_eq_true, Bool.not_eq_true', List.isEmpty_eq_false_iff] at hd
      obtain ⟨hft, hall⟩ := hd
      have hty := (hrest hft).1
      unfold structOf at hs
      unfold typesOf at hty
      split at hs
      case h_2 => cases hs
      rename_i fields hu
      rw [hu] at hty
      simp only [Option.some.injEq] at hs
      have hty : fields.toList.map (fun f => f.type) = ft := by
        cases hb : fields.toList.all fun f => f.name != "_" with
        | true => simp only [hb, Option.some.injEq] at hty; exact hty
        | false => simp only [hb] at hty; cases hty
      obtain ⟨xs, m, _, _, hlen, hxl, hget⟩ := DataW.trod_struct hu hx
      have hfl : fields.size = ft.length := by rw [← hty]; simp
      have hfsl : fs.length = ft.length := by
        have := congrArg List.length hs
        simp at this; omega
      have hfield : ∀ (i : Nat), i < ft.length → ∃ (f : Field) (q : Nat × Nat), fields[i]? = some f ∧ fs[i]? = some q ∧ ft[i]? = some f.type ∧ f.offset = q.1 ∧ P.cellsOf f.type = q.2 := by
        intro i hi
        have h1 : fields.toList[i]? = some (fields.toList[i]'(by simpa using (show i < fields.size by omega))) := List.getElem?_eq_getElem _
        generalize (fields.toList[i]'(by simpa using (show i < fields.size by omega))) = f at h1
        have h2 := congrArg (fun l => l[i]?) hs
        simp only [List.getElem?_map, h1, Option.map_some] at h2
        have h3 := congrArg (fun l => l[i]?) hty
        simp only [List.getElem?_map, h1, Option.map_some] at h3
        have hq := List.getElem?_eq_getElem (l := fs) (i := i) (by omega)
        rw [hq] at h2
        simp only [Option.map_some, Option.some.injEq] at h2
        cases hfi : P.info? f.type with
        | none => rw [hfi] at h2; cases h2
        | some fi =>
          rw [hfi] at h2
          simp only [Option.map_some, Option.some.injEq] at h2
          refine ⟨f, _, by rw [← Array.getElem?_toList]; exact h1, hq, h3.symm, ?_, ?_⟩
          · rw [← h2]
          · rw [← h2]; simp [Program.cellsOf, hfi]
      have hone : ∀ i, i < ft.length → ∃ (s : SV) (_ : Unit), ∃ u q, ft[i]? = some u ∧ fs[i]? = some q ∧ Shp P TT d u s ∧ RelC ⟨fun _ => none, fun _ => False⟩ w s ((cs.drop q.1).take q.2) ∧ wd s = q.2 := by
        intro i hi
        obtain ⟨f, q, h1, h2, h3, h4, h5⟩ := hfield i hi
        have h6 := hget i f h1
        rw [List.getElem?_eq_getElem (by omega), h4, h5] at h6
        obtain ⟨s, h7, h8, h9⟩ := open_trod hT d f.type _ m _ (List.all_eq_true.1 hall _ (List.mem_of_getElem? h3)) h6
        exact ⟨s, (), f.type, q, h3, h2, h7, h8, h9.trans h5⟩
      obtain ⟨ss, us, hs1, hs2, hs3⟩ := listOf ft.length hone
      have hs3 : ∀ (i : Nat) s, ss[i]? = some s → ∃ u q, ft[i]? = some u ∧ fs[i]? = some q ∧ Shp P TT d u s ∧ RelC ⟨fun _ => none, fun _ => False⟩ w s ((cs.drop q.1).take q.2) ∧ wd s = q.2 := fun i s hs => by
        have := (List.getElem?_eq_some_iff.1 hs).1
        exact hs3 i s _ hs (List.getElem?_eq_getElem (by omega))
      have hzl : zc.length = ft.length := by
        have := layout_len zc 0
        rw [← hfs] at this; omega
      have hmap : zc.map wd = ss.map wd := by
        apply List.ext_getElem?
        intro i
        rw [List.getElem?_map, List.getElem?_map]
        cases hsi : ss[i]? with
        | none =>
          rw [List.getElem?_eq_none_iff] at hsi
          rw [List.getElem?_eq_none (by omega)]
        | some s =>
          have hil := (List.getElem?_eq_some_iff.1 hsi).1
          obtain ⟨u, q, _, h2, _, _, h5⟩ := hs3 i s hsi
          have hz := List.getElem?_eq_getElem (l := zc) (i := i) (by omega)
          have := layout_get zc 0 i _ hz
          rw [← hfs, h2] at this
          simp only [Option.some.injEq] at this
          rw [hz]
          simp [h5, this]
      have hwt : wd (.agg ss) = P.cellsOf t := by
        rw [hcell]
        show wds ss = wd z
        rw [hzc]
        exact (wds_map _ _ hmap).symm
      refine ⟨.agg ss, ⟨ss, rfl, hs1, fun i u c h1 h2 => ?_⟩, relC_pieces ss cs (fun i s hsi => ?_) (hlen.trans hwt.symm), hwt⟩
      · obtain ⟨u', q, h3, _, h4, _⟩ := hs3 i c h2
        rw [h1] at h3
        cases h3
        exact h4
      · obtain ⟨u, q, _, h2, _, h4, h5⟩ := hs3 i s hsi
        have hil := (List.getElem?_eq_some_iff.1 hsi).1
        have hz := List.getElem?_eq_getElem (l := zc) (i := i) (by omega)
        have := layout_get zc 0 i _ hz
        rw [← hfs, h2] at this
        simp only [Option.some.injEq] at this
        rw [← layout_of zc ss hmap i, h5, this]
        rw [this] at h4
        simpa using h4
    | _ => simp at hd

/-- The arguments, each with its shape. -/
def ShpL (P : Program) (TT : Nat → TI) (d : Nat) : List Nat → List SV → Prop
  | [], [] => True
  | t :: ts, s :: ss => Shp P TT d t s ∧ ShpL P TT d ts ss
  | _, _ => False

theorem open_all (hT : TTok P TT) (d : Nat) : ∀ (ts : List Nat) (vs : List Value) (ds : List (DataW H)) (ps : List MemPlace), (∀ t ∈ ts, deepT P TT d t = true) → DataW.TrodAll enc P w 0 (fun _ => true) true ts vs ds ps →
    (∀ (j : Nat) t v, ts[j]? = some t → vs[j]? = some v → Value.okWide P w .any base t v) →
    ∃ ss, ShpL P TT d ts ss ∧ RelVL ⟨fun _ => none, fun _ => False⟩ w ss vs
  | [], [], ds, ps, _, h, _ => ⟨[], trivial, .nil⟩
  | [], _ :: _, ds, ps, _, h, _ => by cases ds <;> exact h.elim
  | _ :: _, [], ds, ps, _, h, _ => by cases ds <;> exact h.elim
  | t :: ts, v :: vs, [], ps, _, h, _ => h.elim
  | t :: ts, v :: vs, d0 :: ds, ps, hd, h, hok => by
    obtain ⟨p, q, ⟨fuel, h1⟩, h2, _⟩ := h
    obtain ⟨ss, h3, h4⟩ := open_all hT d ts vs ds q (fun t ht => hd t (by simp [ht])) h2 (fun j t v h1 h2 => hok (j + 1) t v (by simpa using h1) (by simpa using h2))
    obtain ⟨s, h5, h6, _⟩ := open_trod hT d t _ fuel _ (hd t (by simp)) h1
    refine ⟨s :: ss, ⟨h5, h3⟩, .cons ?_ h4⟩
    have hv := hok 0 t v rfl rfl
    have hdt := hd t (by simp)
    have hdesc := (hT t).desc
    cases d with
    | zero => exact h5.elim
    | succ d =>
      simp only [Shp] at h5
      have cell : ∀ {x : Value}, (∀ us, v ≠ .agg us) → v.cells.toList = [x] → v = x := by
        intro x hne hc
        cases v with
        | agg us => exact absurd rfl (hne us)
        | _ => simpa [Value.cells] using hc
      generalize hti : TT t = ti at *
      cases ti with
      | int k =>
        obtain ⟨n, rfl, _⟩ := h5
        have hu : P.underlying t = some (.int k) := hdesc
        have hne : ∀ us, v ≠ .agg us := fun us e => by subst e; simp [Value.okWide, hu, Cell.okWide, Cell.ok] at hv
        generalize hc : v.cells.toList = cs at h6
        cases h6 with
        | v ho => rw [cell hne hc]; exact .v ho
      | bool =>
        obtain ⟨n, rfl⟩ := h5
        have hu : P.underlying t = some .bool := hdesc
        have hne : ∀ us, v ≠ .agg us := fun us e => by subst e; simp [Value.okWide, hu, Cell.okWide, Cell.ok] at hv
        generalize hc : v.cells.toList = cs at h6
        cases h6 with
        | v ho => rw [cell hne hc]; exact .v ho
      | slc E bytes z =>
        obtain ⟨rows, rfl, _⟩ := h5
        obtain ⟨e, hu, _⟩ := hdesc
        have hne : ∀ us, v ≠ .agg us := fun us e => by subst e; simp [Value.okWide, hu, Cell.okWide, Cell.ok] at hv
        generalize hc : v.cells.toList = cs at h6
        have : ∃ x, cs = [x] := by cases h6 <;> exact ⟨_, rfl⟩
        obtain ⟨x, rfl⟩ := this
        rw [cell hne hc]; exact h6
      | arr n E el z =>
        obtain ⟨hu, _⟩ := hdesc
        have hag : ∃ cs, v = .agg cs ∧ cs.size = P.cellsOf t ∧ Row.okWide P w .any base t cs := by simpa [Value.okWide, hu] using hv
        obtain ⟨us, rfl, _⟩ := hag
        simp only [Value.cells] at h6
        have hs : (∃ l, s = .ba n l) ∨ ∃ cs, s = .agg cs := by
          dsimp only at h5
          split at h5
          · obtain ⟨l, rfl, _⟩ := h5; exact .inl ⟨_, rfl⟩
          · obtain ⟨cs, rfl, _⟩ := h5; exact .inr ⟨_, rfl⟩
        rcases hs with ⟨l, rfl⟩ | ⟨cs, rfl⟩
        · exact ⟨us.toList, by simp, h6⟩
        · exact ⟨us.toList, by simp, h6⟩
      | str fs ft z =>
        obtain ⟨hst, _⟩ := hdesc
        have hu : ∃ f, P.underlying t = some (.struct f) := by
          unfold structOf at hst
          split at hst
          · exact ⟨_, by assumption⟩
          · cases hst
        obtain ⟨f, hu⟩ := hu
        have hag : ∃ cs, v = .agg cs ∧ cs.size = P.cellsOf t ∧ Row.okWide P w .any base t cs := by simpa [Value.okWide, hu] using hv
        obtain ⟨us, rfl, _⟩ := hag
        simp only [Value.cells] at h6
        obtain ⟨cs, rfl, _⟩ := h5
        exact ⟨us.toList, by simp, h6⟩
      | _ => exact h5.elim
end
end Go.Fw
