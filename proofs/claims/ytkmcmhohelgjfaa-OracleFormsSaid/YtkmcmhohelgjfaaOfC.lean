/- OracleForms: the walk. -/
import Derived.Test.YtkmcmhohelgjfaaOfB7
namespace Go.Fw
set_option maxRecDepth 4000
open Go.Proofs
set_option maxHeartbeats 4000000
/-- The blocks from m on are given up, as the prover says. -/
theorem Con.fzO {P : Program} {f : FuncId} {args : List SV} {hp : List OB} {r r' : SV} {hp' hp2 : List OB} (h : Con P f args hp r hp') (m : Nat) (hm : hp.length ≤ m)
    (hrel : ∀ (cx : Cx) (w : World) (v : Value) (kk : List Nat), (∀ k, m ≤ k → k < hp'.length → k ∈ kk) → Mem cx w (nthB hp') → RelV cx w r v → RelV (cx.minus kk) w r' v) (hr2 : below m r' = true)
    (ha : ∀ k ob, m ≤ k → hp'[k]? = some ob → ob ≠ .gone) (he : hp'.take m = hp2) (hb : hp2.all (belowB m) = true) : Con P f args hp r' hp2 := by
  intro cx w vals hgl hmm hv
  refine (h cx w vals hgl hmm hv).mono fun e w' ⟨cx1, v, h1, h2, h3, h4⟩ => ?_
  let kk := (List.range hp'.length).filter (fun k => decide (m ≤ k))
  have hkk : ∀ k, m ≤ k → k < hp'.length → k ∈ kk := fun k h1 h2 => List.mem_filter.2 ⟨List.mem_range.2 h2, by simpa using h1⟩
  have hkk2 : ∀ k ∈ kk, m ≤ k ∧ k < hp'.length := fun k hk => by
    obtain ⟨h1, h2⟩ := List.mem_filter.1 hk
    exact ⟨by simpa using h2, List.mem_range.1 h1⟩
  have hg : ∀ k ∈ kk, ∃ ob, nthB hp' k = some ob ∧ ob ≠ .gone := fun k hk => by
    obtain ⟨h1, h2⟩ := hkk2 k hk
    exact ⟨hp'[k], by rw [nthB_eq, List.getElem?_eq_getElem h2], ha k _ h1 (List.getElem?_eq_getElem h2)⟩
  have hr3 := hrel cx1 w' v kk hkk h3 h2
  have hm3 := mem_minus h3 hg
  have hm4 : Mem (cx1.minus kk) w' (nthB (hp2 ++ List.replicate (hp'.length - m) OB.gone)) := by
    have e : nthB (hp2 ++ List.replicate (hp'.length - m) OB.gone) = updHp (nthB hp') (goneL kk) := by
      funext k
      have hl2 : hp2.length = min m hp'.length := by rw [← he]; simp
      rw [nthB_eq, goneL_get]
      by_cases hk : k ∈ kk
      · obtain ⟨g1, g2⟩ := hkk2 k hk
        rw [if_pos hk, List.getElem?_append_right (by omega), List.getElem?_replicate, if_pos (by omega)]
      · rw [if_neg hk, nthB_eq]
        by_cases hlt : k < hp'.length
        · have hkm : k < m := Nat.lt_of_not_le fun hh => hk (hkk k hh hlt)
          rw [List.getElem?_append_left (by omega), ← he, List.getElem?_take, if_pos hkm]
        · rw [List.getElem?_eq_none (by simp; omega), List.getElem?_eq_none (by omega)]
    rw [e]; exact hm3
  have hup := mem_upto (m := m) hm4 (fun ob ho => by
    have : (hp2 ++ List.replicate (hp'.length - m) OB.gone).take m = hp2 ++ List.replicate (min (hp'.length - m) (m - hp2.length)) OB.gone := by
      have hl2 : hp2.length ≤ m := by rw [← he]; simp; omega
      rw [List.take_append, List.take_of_length_le hl2, List.take_replicate, Nat.min_comm]
    rw [this] at ho
    rcases List.mem_append.1 ho with h | h
    · exact List.all_eq_true.1 hb ob h
    · rw [(List.mem_replicate.1 h).2]; rfl)
  have e3 : nthB ((hp2 ++ List.replicate (hp'.length - m) OB.gone).take m) = nthB hp2 := by
    have hl2 : hp2.length = min m hp'.length := by rw [← he]; simp
    have : (hp2 ++ List.replicate (hp'.length - m) OB.gone).take m = hp2 := by
      rw [List.take_append, List.take_of_length_le (by omega), List.take_replicate]
      have : min (m - hp2.length) (hp'.length - m) = 0 := by omega
      rw [this]; simp
    rw [this]
  rw [e3] at hup
  refine ⟨(cx1.minus kk).upto m, v, h1, hr3.upto hr2, hup, ?_⟩
  have keeplt : ∀ k, isCells (nthB hp) k → k < m := fun k ⟨s, hk⟩ => by
    rw [nthB_eq] at hk
    have := (List.getElem?_eq_some_iff.1 hk).1
    omega
  refine fr_upto ⟨h4.le, h4.same, fun b hb => h4.own b hb.1, fun b hb hO => ?_, h4.blk, h4.keep, h4.wk⟩ keeplt
  rcases h4.old b hb hO with h0 | h0
  · by_cases hex : ∃ k ∈ kk, ∃ C, cx1.bl k = some (.at b C)
    · obtain ⟨k, hk, C, hc⟩ := hex
      rcases h4.blk k b C hc with ⟨k', g1, g2⟩ | g1
      · rcases g1 with rfl | g1
        · have := (hkk2 k' hk).1
          exact .inr ⟨k', C, fun hh => by have := keeplt k' hh; omega, g2⟩
        · exact .inr ⟨k', C, g1, g2⟩
      · omega
    · exact .inl ⟨h0, fun k hk C hc => hex ⟨k, hk, C, hc⟩⟩
  · exact .inr h0
theorem ovs_get : ∀ (R : List (List Int)) (j i : Nat) (s : SV), (ovs j R)[i]? = some s → ∃ r, R[i]? = some r ∧ s = .ov 1 (j + i) 0 r.length
  | [], _, _, _, h => by simp [ovs] at h
  | r :: R, j, 0, s, h => by simp [ovs] at h; exact ⟨r, rfl, h.symm⟩
  | r :: R, j, i + 1, s, h => by
    obtain ⟨r', h1, h2⟩ := ovs_get R (j + 1) i s (by simpa [ovs] using h)
    exact ⟨r', by simpa using h1, by rw [h2]; congr 1; omega⟩
theorem ovs_len : ∀ (R : List (List Int)) (j : Nat), (ovs j R).length = R.length
  | [], _ => rfl
  | r :: R, j => by simp [ovs, ovs_len R]
theorem arrs_get : ∀ (R : List (List Int)) (i : Nat) (r : List Int), R[i]? = some r → (arrs R)[i]? = some (.arr none 1 (ints r))
  | [], _, _, h => by simp at h
  | r :: R, 0, r', h => by simp at h; subst h; rfl
  | r :: R, i + 1, r', h => by simpa [arrs] using arrs_get R i r' (by simpa using h)
theorem arrs_len : ∀ (R : List (List Int)), (arrs R).length = R.length
  | [] => rfl
  | r :: R => by simp [arrs, arrs_len R]
def noT (R : List (List Int)) : List (Tg × List Int) := R.map fun r => (Tg.no, r)
theorem noT_len (R : List (List Int)) : (noT R).length = R.length := by simp [noT]
/-- What spoiled returns, as a shared slice of shared slices. -/
theorem spo_shared {P : Program} {f : FuncId} {args : List SV} {hp : List OB} {l : List Int} {k : Int} {R : List (List Int)} {off : Nat} (h : Con P f args hp (.ov 1 2 off (R.length - off)) (ownH l k R)) (hp1 : hp.length ≤ 2) (ho : off ≤ R.length) :
    Con P f args hp (.fs .no 1 (mat (noT (R.drop off)))) [.cells (tape l k), .gone] := by
  refine h.fzO 2 hp1 (fun cx w v kk hkk hm hv => ?_) rfl (fun k ob h1 h2 => ?_) rfl rfl
  · have hv : RelC cx w (.ov 1 2 off (R.length - off)) [v] := hv
    show RelC (cx.minus kk) w (.fs .no 1 (mat (noT (R.drop off)))) [v]
    have hrl : (mat (noT (R.drop off))).length = R.length - off := by rw [mat_len, noT_len, List.length_drop]
    have hlen : (ownH l k R).length = R.length + 3 := by simp [ownH, arrs_len]
    have k1 : 2 ∈ kk := hkk 2 (Nat.le_refl 2) (by omega)
    generalize hq : R.length - off = q at hv
    cases hv with
    | ov hb hC =>
      rename_i b C
      subst hq
      have hl := live_at hm (k := 2) (ob := .own 1 (ovs 3 R)) rfl hb (by simp)
      obtain ⟨hO, vs, T, hh, hvl, hA, hrows⟩ := hl
      have hAl := hA.le
      rw [ovs_len] at hAl
      rw [← hrl]
      have hrr : ∀ i, i < R.length - off → ∃ r x, R[off + i]? = some r ∧ (mat (noT (R.drop off)))[i]? = some (.fs .no 1 (ints r)) ∧ vs[off + i]? = some x ∧ RelC ((cx.minus kk).bare) w (.fs .no 1 (ints r)) [x] := fun i hi => by
        have hi2 : off + i < R.length := by omega
        have hs := List.getElem?_eq_getElem (l := ovs 3 R) (i := off + i) (by rw [ovs_len]; exact hi2)
        obtain ⟨r, h1, h2⟩ := ovs_get R 3 (off + i) _ hs
        have h3 := hrows (off + i) _ hs
        rw [Nat.mul_one] at h3
        have hvi : off + i < vs.length := by omega
        have e3 : (vs.drop (off + i)).take 1 = [vs[off + i]] := by rw [List.drop_eq_getElem_cons hvi]; rfl
        rw [e3, h2] at h3
        have hk2 : nthB (ownH l k R) (3 + (off + i)) = some (.arr none 1 (ints r)) := by
          rw [nthB_eq, show 3 + (off + i) = (off + i) + 1 + 1 + 1 by omega]
          show (arrs R)[off + i]? = _
          exact arrs_get R _ r h1
        have h4 := (FzR.fz (hp := ownH l k R) (m := 2) (E := 1) (k := 3 + (off + i)) (off := 0) (n := r.length) (x := none) (rows := ints r) (rs := ints r) (by omega) (by rw [← nthB_eq]; exact hk2) (by rw [lst_len]; omega) (by rw [List.drop_zero, List.take_of_length_le]; rw [lst_len]; exact Nat.le_refl _)).rel hkk hm h3
        refine ⟨r, vs[off + i], h1, ?_, List.getElem?_eq_getElem hvi, noRef_bare h4 rfl⟩
        simp only [mat, noT, List.map_map, List.getElem?_map, List.getElem?_drop, h1]
        rfl
      refine .fs (b := b) (off := off * 1) (fun i => [vs.getD (off + i) default]) hh (fun hc => hc.2 2 k1 C hb) (by omega) Tg.ok_no (fun i s hs => ?_) (fun i hi => rfl) (fun i hi j x hx => ?_)
      · have hi : i < R.length - off := by rw [← hrl]; exact (List.getElem?_eq_some_iff.1 hs).1
        obtain ⟨r, x, h1, h2, h3, h4⟩ := hrr i hi
        rw [h2] at hs
        cases hs
        simp only [List.getD, h3]
        exact h4
      · rw [hrl] at hi
        obtain ⟨r, x', h1, h2, h3, h4⟩ := hrr i hi
        cases j with
        | zero =>
          simp only [List.getD, h3, List.getElem?_cons_zero, Option.some.injEq, Option.getD_some] at hx
          subst hx
          simpa using h3
        | succ j => simp at hx
    | ovz hb =>
      rename_i hq
      have e : mat (noT (R.drop off)) = [] := List.length_eq_zero_iff.1 (by omega)
      rw [e]; exact .fs0 Tg.ok_no
    | ov0 hb =>
      have e : mat (noT (R.drop 0)) = [] := List.length_eq_zero_iff.1 (by omega)
      rw [e]; exact .fs0 Tg.ok_no
  · rcases k with _ | _ | _ | k
    · omega
    · omega
    · simp [ownH] at h2; subst h2; simp
    · have h2 : (arrs R)[k]? = some ob := by simpa [ownH] using h2
      have hk : k < R.length := by rw [← arrs_len]; exact (List.getElem?_eq_some_iff.1 h2).1
      rw [arrs_get R k _ (List.getElem?_eq_getElem hk)] at h2
      cases h2; simp
end Go.Fw
