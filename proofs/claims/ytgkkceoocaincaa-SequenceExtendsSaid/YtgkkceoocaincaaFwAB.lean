/- The executor is sound: append. -/
import Derived.Test.YtgkkceoocaincaaFwAA
namespace Go.Fw
section
variable {P : Program} {TT : Nat → TI} {n : Sz} {e : List (Nat × SV)} {h : List OB} {K : Rec → Prop}
variable {dst : Option Nat} {ty : TypeId} {pos : String} {after : Array Edge} {guard : Option (Nat × Bool)}

theorem rowsOf'_sound {h : List OB} {s : SV} {K : Nat → List SV → List Nat → Prop} (hk : rowsOf' h s K) : ∃ E xs ks, K E xs ks ∧
    ∀ (cx : Cx) (w : World) (v : Value) (hp' : Nat → Option OB), (∀ k ∈ ks, hp' k = nthB h k) → Mem cx w hp' → RelV cx w s v → RowsAt cx w E xs v := by
  unfold rowsOf' at hk
  split at hk
  · exact ⟨_, _, _, hk, fun cx w v hp' _ _ hr => fs_rowsAt hr⟩
  · rename_i E k off m
    split at hk
    · rename_i E' rows hs
      split at hk
      · rename_i hE
        have hE := Nat.eq_of_beq_eq_true hE
        subst hE
        obtain ⟨hle, hk⟩ := need_iff.1 hk
        exact ⟨_, _, _, hk, fun cx w v hp' hh hm hr => ov_rowsAt hr (hm.live k _ (by rw [hh k (by simp), hs])) (by simp; omega)⟩
      · exact hk.elim
    · exact hk.elim
  · rename_i k p off m
    split at hk
    · rename_i s0 hs
      obtain ⟨y, hk, hle, hy⟩ := follow_sound _ _ _ hk
      split at hk
      · rename_i nb l
        obtain ⟨hle2, hk⟩ := need_iff.1 hk
        refine ⟨_, _, _, hk, fun cx w v hp' hh hm hr => ?_⟩
        have hl := hm.live k _ (by rw [hh k (by simp), hs])
        refine sb_rowsAt hr hl (fun cx w vs hrc => hy cx w vs hrc) ?_
        rcases hl with ⟨b', C', hb', _, vs, T, hh', hrc⟩ | ⟨_, _, hb'⟩
        · have := hy cx w vs hrc
          generalize (vs.drop (offs p)).take (wd (SV.ba nb l)) = seg at this
          cases this with
          | ba hl => simp [bytesRows]; omega
        · cases hb'
      · exact hk.elim
    · exact hk.elim
  · exact hk.elim

theorem rowsOf_sound {E : Nat} {h : List OB} {s : SV} {K : List SV → List Nat → Prop} (hk : rowsOf E h s K) : ∃ xs ks, K xs ks ∧
    ∀ (cx : Cx) (w : World) (v : Value) (hp' : Nat → Option OB), (∀ k ∈ ks, hp' k = nthB h k) → Mem cx w hp' → RelV cx w s v → RowsAt cx w E xs v := by
  unfold rowsOf at hk
  split at hk
  · refine ⟨_, _, hk, fun cx w v hp' _ _ hr => ?_⟩
    rw [relV_v hr]
    exact ⟨_, _, [], rfl, by simp, by simp, fun _ => rfl, fun _ _ _ _ h => by simp at h, fun _ _ h => by simp at h⟩
  · obtain ⟨E', xs, ks, hk, hr⟩ := rowsOf'_sound hk
    split at hk
    · rename_i hE
      have hE := Nat.eq_of_beq_eq_true hE
      subst hE
      exact ⟨xs, ks, hk, hr⟩
    · exact hk.elim

theorem cell_heap {w w' : World} (hh : w'.heap = w.heap) (a : Addr) : w'.cell? a = w.cell? a := by simp [World.cell?, hh]

theorem first_of {w : World} {size m : Nat} {a : Option Addr} {c : Nat} {news : List Value} (hl : news.length = m * size) (h0 : a = none → m = 0)
    (hc : ∀ ad, a = some ad → ∀ (j : Nat) u, news[j]? = some u → w.cell? (ad.add j) = some u) {w' : World} (hh : w'.heap = w.heap) :
    (Builtin.firstCells size m (.slice a m c)).run P w' = .ok news.toArray w' := by
  cases a with
  | none =>
    have := h0 rfl
    subst this
    have : news = [] := by simpa using hl
    subst this
    simp [Builtin.firstCells]
  | some ad => exact run_firstCells_some (P := P) w' size m ad m c news hl (fun j u hu => by rw [cell_heap hh]; exact hc ad rfl j u hu)

theorem run_app_zero (w : World) (t ty el : TypeId) (i : TypeInfo) (ht : P.underlying t = some (.slice el)) (hi : P.info? el = some i) (base : Option Addr) (sLen sCap : Nat) (a : Option Addr) (c : Nat) (hle : sLen ≤ sCap) :
    (Builtin.append_ #[t, t] ty #[.slice base sLen sCap, .slice a 0 c]).run P w = .ok (.slice base sLen sCap) w := by
  have hf : (Builtin.firstCells i.size 0 (.slice a 0 c)).run P w = .ok #[] w := by cases a <;> simp [Builtin.firstCells, loadCells, loadCellsFrom]
  cases base <;> simp [Builtin.append_, run_underlying ht, run_sizeOf' hi, Builtin.lenOf, hle, hf, storeCells]

theorem run_app_grow (w : World) (t ty el : TypeId) (i : TypeInfo) (z : Value) (ht : P.underlying t = some (.slice el)) (hi : P.info? el = some i) (hz : i.zero = some z)
    (base : Option Addr) (sLen sCap : Nat) (olds : List Value) (hfo : (Builtin.firstCells i.size sLen (.slice base sLen sCap)).run P w.drew = .ok olds.toArray w.drew)
    (a : Option Addr) (m c : Nat) (news : List Value) (hf : (Builtin.firstCells i.size m (.slice a m c)).run P w.drew = .ok news.toArray w.drew)
    (hg : sCap < sLen + m) (h63 : sLen + m ≤ 9223372036854775807) (hfit : (sLen + m) * i.bytes ≤ 140737488355328) :
    (Builtin.append_ #[t, t] ty #[.slice base sLen sCap, .slice a m c]).run P w =
      .ok (.slice (some ⟨w.heap.size, 0, none⟩) (sLen + m) (grownCap w (sLen + m) sCap el))
        (w.drew.alloc (.cells (olds ++ news ++ (Builtin.zeroCells z.cells (grownCap w (sLen + m) sCap el - (sLen + m))).toList).toArray el)) := by
  have hn : ¬ (sLen + m ≤ sCap) := by omega
  have h63' : ¬ (9223372036854775807 < ((sLen : Int) + (m : Int))) := by omega
  have hfit' := growslice_fits (need := sLen + m) (old := sCap) (bytes := i.bytes) hg hfit
  have h48' : ¬ (281474976710656 < Builtin.nextslicecap (sLen + m) sCap * i.bytes) := by omega
  simp [Builtin.append_, run_underlying ht, sizeOf, typeInfo, zeroValue, hi, hz, Builtin.lenOf, hn, h63', h48', Question.forced, hf, hfo, newRow, grownCap]
  congr 2
  apply Array.ext'
  simp [List.append_assoc]

theorem run_app_room (w : World) (t ty el : TypeId) (i : TypeInfo) (ht : P.underlying t = some (.slice el)) (hi : P.info? el = some i)
    (g o sLen sCap : Nat) (cur : Array Value) (T : TypeId) (hg : w.heap[g]? = some (.cells cur T (0, 0)))
    (a : Option Addr) (m c : Nat) (news : List Value) (hf : (Builtin.firstCells i.size m (.slice a m c)).run P w = .ok news.toArray w) (h1 : ∀ u ∈ news, u.oneCell' = true)
    (hroom : sLen + m ≤ sCap) (hfit : o + sLen * i.size + news.length ≤ cur.size) :
    (Builtin.append_ #[t, t] ty #[.slice (some ⟨g, o, none⟩) sLen sCap, .slice a m c]).run P w =
      .ok (.slice (some ⟨g, o, none⟩) (sLen + m) sCap) (w.setRow g (cur.toList.take (o + sLen * i.size) ++ news ++ cur.toList.drop (o + sLen * i.size + news.length)).toArray) := by
  have hst := run_storeCells_at P g (o + sLen * i.size) T news 0 cur w hg (by simpa using hfit) h1
  simp only [Nat.add_zero] at hst
  simp [Builtin.append_, run_underlying ht, sizeOf, typeInfo, hi, Builtin.lenOf, hroom, hf, add_none]
  simp at hst
  simp [hst]

/-- The segments of cells laid one behind the other. -/
theorem seg_app {cx : Cx} {w : World} {E : Nat} {r1 r2 : List SV} {olds news tail : List Value} (h1 : olds.length = r1.length * E) (h2 : news.length = r2.length * E)
    (s1 : ∀ i s, r1[i]? = some s → RelC cx w s ((olds.drop (i * E)).take E)) (s2 : ∀ i s, r2[i]? = some s → RelC cx w s ((news.drop (i * E)).take E)) :
    ∀ i s, (r1 ++ r2)[i]? = some s → RelC cx w s (((olds ++ news ++ tail).drop (i * E)).take E) := by
  intro i s hs
  rw [List.getElem?_append] at hs
  split at hs
  · rename_i hi
    have hiE : (i + 1) * E ≤ r1.length * E := Nat.mul_le_mul_right E hi
    rw [Nat.add_mul, Nat.one_mul] at hiE
    have : ((olds ++ news ++ tail).drop (i * E)).take E = (olds.drop (i * E)).take E := by
      rw [List.append_assoc, List.drop_append_of_le_length (by omega), List.take_append_of_le_length (by simp; omega)]
    rw [this]; exact s1 i s hs
  · rename_i hi
    have hi2 : i - r1.length < r2.length := (List.getElem?_eq_some_iff.1 hs).1
    have hiE : (i - r1.length + 1) * E ≤ r2.length * E := Nat.mul_le_mul_right E hi2
    rw [Nat.add_mul, Nat.one_mul] at hiE
    have e1 : i * E = olds.length + (i - r1.length) * E := by
      rw [h1, ← Nat.add_mul]; congr 1; omega
    have : ((olds ++ news ++ tail).drop (i * E)).take E = (news.drop ((i - r1.length) * E)).take E := by
      rw [e1, List.append_assoc, dropA, List.drop_append_of_le_length (by omega), List.take_append_of_le_length (by simp; omega)]
    rw [this]; exact s2 _ s hs

structure SlcFacts (P : Program) (t : TypeId) (E bytes : Nat) (el : TypeId) (i : TypeInfo) (z : Value) : Prop where
  ht : P.underlying t = some (.slice el)
  hi : P.info? el = some i
  hE : i.size = E
  hb : i.bytes = bytes
  hz : i.zero = some z
  hzc : z.cells.size = E
theorem slcFacts {t : TypeId} {E bytes : Nat} {z : SV} (hT : TTok P TT) (h : TT t = .slc E bytes z) : ∃ el i z', SlcFacts P t E bytes el i z' := by
  have hd := (hT t).desc
  rw [h] at hd
  obtain ⟨el, hu, hie, hz, hwz⟩ := hd
  obtain ⟨i, h1, h2, h3, h4⟩ := hie.mk
  exact ⟨el, i, _, hu, h1, h2, h3, h4, by rw [toVal_cells hz, List.size_toArray, flat_len hz, hwz]⟩

/-- What appending to a slice that has no room makes: a new block. -/
theorem app_new {t : TypeId} {E bytes : Nat} {el : TypeId} {i : TypeInfo} {z : Value} (F : SlcFacts P t E bytes el i z) {cx : Cx} {w : World} {r0 xs : List SV} {v x : Value} {hp : Nat → Option OB} {k : Nat} {keep : Nat → Prop}
    (hm : Mem cx w hp) (hk : hp k = none) (hkeep : ∀ k, keep k → cx.bl k ≠ none) (h0 : RowsAt cx w E r0 v) {sCap : Nat} (hcap : ∀ a l c, v = .slice a l c → c = sCap) (hx : RowsAt cx w E xs x) (hne : sCap < r0.length + xs.length ∨ (r0 = [] ∧ sCap = 0))
    (hroom : roomOK (r0.length + xs.length) bytes) :
    ∃ v' cx' w', (Builtin.append_ #[t, t] ty #[v, x]).run P w = .ok v' w' ∧ Ext cx w cx' w' ∧ Fr keep cx w cx' w' ∧ Mem cx' w' (fun j => if j = k then some (.arr E (r0 ++ xs)) else hp j) ∧
      RelV cx' w' (.ov E k 0 (r0 ++ xs).length) v' := by
  obtain ⟨a, c, news, rfl, hnl, hn1, ha0, hac, hseg⟩ := hx
  obtain ⟨b, c0, olds, rfl, hol, ho1, hb0, hbc, hoseg⟩ := h0
  have hc0 := hcap _ _ _ rfl
  subst hc0
  have hnk : ¬ keep k := fun hk2 => hkeep k hk2 (hm.dom k hk)
  by_cases hx0 : ¬ c0 < r0.length + xs.length
  · obtain ⟨hr0, hs0⟩ := hne.resolve_left hx0
    subst hr0 hs0
    have hxs : xs = [] := List.length_eq_zero_iff.1 (by simpa using hx0)
    subst hxs
    refine ⟨_, cx.with k .virt cx.O, w, run_app_zero w t ty el i F.ht F.hi b 0 0 a c (Nat.le_refl _), ext_virt cx w k (hm.dom k hk), fr_virt keep cx w k hnk, mem_virt hm k E hk, ?_⟩
    exact .ov0 (by simp [Cx.with])
  · have hx0 : c0 < r0.length + xs.length := Classical.not_not.1 hx0
    have hh : w.drew.heap = w.heap := rfl
    have hfo := first_of (P := P) (size := i.size) (c := c0) (by rw [F.hE]; exact hol) hb0 hbc hh
    have hf := first_of (P := P) (size := i.size) (c := c) (by rw [F.hE]; exact hnl) ha0 hac hh
    have hrun := run_app_grow w t ty el i z F.ht F.hi F.hz b r0.length c0 olds hfo a xs.length c news hf (by omega) (by have := hroom.2; omega) (by rw [F.hb]; have := hroom.1; omega)
    have hcg := grownCap_ge w (r0.length + xs.length) c0 el
    generalize hC : grownCap w (r0.length + xs.length) c0 el = C at hrun hcg
    generalize htl : (Builtin.zeroCells z.cells (C - (r0.length + xs.length))).toList = tail at hrun
    have htail : tail.length = (C - (r0.length + xs.length)) * E := by rw [← htl, Array.length_toList, size_zeroCells, F.hzc]
    have hm1 := mem_heap hm hh
    have hob : ∀ cx', Ext cx w.drew cx' (w.drew.alloc (.cells (olds ++ news ++ tail).toArray el)) → Holds cx' (w.drew.alloc (.cells (olds ++ news ++ tail).toArray el)) w.drew.heap.size C (.arr E (r0 ++ xs)) := by
      intro cx' he
      refine ⟨_, el, heap_alloc_new _ _, ?_, by simp; omega, fun j s hs => ?_⟩
      · simp only [List.length_append, hol, hnl, htail]
        rw [← Nat.add_mul, ← Nat.add_mul]; congr 1; omega
      · have := seg_app (tail := tail) hol hnl hoseg hseg j s hs
        exact (this.mono (ext_heap hh).bare).mono he.bare
    refine ⟨_, cx.with k (.at w.heap.size C) (fun b => cx.O b ∨ b = w.heap.size), _, hrun, (ext_heap hh).trans (ext_alloc cx w.drew _ k C (hm.dom k hk)) (Nat.le_refl _), (fr_heap hh).trans (fr_alloc keep cx w.drew _ k C hnk ⟨_, _, rfl⟩) (fun _ h => h), mem_alloc hm1 _ k C hk _ hob, ?_⟩
    show RelC _ _ _ [_]
    have := RelC.ov (cx := cx.with k (.at w.heap.size C) (fun b => cx.O b ∨ b = w.heap.size)) (w := w.drew.alloc (.cells (olds ++ news ++ tail).toArray el)) (E := E) (k := k) (off := 0) (n := (r0 ++ xs).length) (b := w.heap.size) (C := C) (by simp [Cx.with]) (by simp; omega)
    simpa using this
end
end Go.Fw
