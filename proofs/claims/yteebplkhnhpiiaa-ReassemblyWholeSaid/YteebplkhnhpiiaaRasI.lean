/- The program's Add. -/
import Derived.Test.YteebplkhnhpiiaaRasH
namespace Go.Fw
open Go.Proofs
set_option maxHeartbeats 8000000
set_option maxRecDepth 4000
abbrev addV (R : List Buf × List UInt8 × Int) : SV := .tup [.fs .no 10 (lst bufV R.1), .fs .no 1 (lst b8 R.2.1), int R.2.2]
/-- Rows that say more than these buffers. -/
structure RowW (rows : List SV) (L : List Buf) : Prop where
  len : rows.length = L.length
  wk : ∀ (i : Nat) s b, rows[i]? = some s → L[i]? = some b → Wk s (bufV b)
theorem wk_frg (t : Tg) (f : Frg) : Wk (frgT t f) (frgV f) := .cons .rfl (.cons .rfl (.cons .rfl (.cons .tag .rfl)))
theorem wk_frgs (t : Tg) (l : List Frg) : Wk (.fs t 4 (lst frgC l)) (.fs .no 4 (lst frgV l)) :=
  .lst rfl fun i a b h1 h2 => by rw [h1] at h2; cases h2; exact wk_frg _ _
theorem wk_buf (t : Tg) (b : Buf) : Wk (bufT t b (lst frgC b.parts)) (bufV b) := .cons .rfl (.cons .rfl (.cons .rfl (.cons .rfl (.cons (wk_frgs t b.parts) .rfl))))
theorem RowW.all (L : List Buf) : RowW (lst bufC L) L := ⟨by simp [lst], fun i s b h1 h2 => by
  simp only [lst, List.getElem?_map, h2, Option.map_some, Option.some.injEq] at h1
  subst h1
  exact wk_buf _ _⟩
theorem RowW.set {rows : List SV} {L : List Buf} (h : RowW rows L) (i : Nat) {s : SV} {b : Buf} (g : Wk s (bufV b)) : RowW (rows.set i s) (L.set i b) := ⟨by simp [h.len], fun j s' b' h1 h2 => by
  rw [List.getElem?_set] at h1 h2
  by_cases e : i = j
  · subst e
    rw [if_pos rfl] at h1 h2
    split at h1
    · split at h2
      · cases h1; cases h2; exact g
      · cases h2
    · cases h1
  · rw [if_neg e] at h1 h2
    exact h.wk j _ _ h1 h2⟩
theorem RowW.app {r1 r2 : List SV} {l1 l2 : List Buf} (h1 : RowW r1 l1) (h2 : RowW r2 l2) : RowW (r1 ++ r2) (l1 ++ l2) := ⟨by simp [h1.len, h2.len], fun i s b g1 g2 => by
  have := h1.len
  rw [List.getElem?_append] at g1 g2
  split at g1
  · rw [if_pos (by omega)] at g2; exact h1.wk i _ _ g1 g2
  · rw [if_neg (by omega)] at g2
    rw [this] at g1
    exact h2.wk _ _ _ g1 g2⟩
theorem RowW.take {r : List SV} {l : List Buf} (h : RowW r l) (n : Nat) : RowW (r.take n) (l.take n) := ⟨by simp [h.len], fun i s b g1 g2 => by
  rw [List.getElem?_take] at g1 g2
  split at g1
  · rw [if_pos (by assumption)] at g2; exact h.wk i _ _ g1 g2
  · cases g1⟩
theorem RowW.drop {r : List SV} {l : List Buf} (h : RowW r l) (n : Nat) : RowW (r.drop n) (l.drop n) := ⟨by simp [h.len], fun i s b g1 g2 => by
  rw [List.getElem?_drop] at g1 g2
  exact h.wk _ _ _ g1 g2⟩
theorem RowW.del {r : List SV} {l : List Buf} (h : RowW r l) (i : Nat) : RowW (r.take i ++ r.drop (i + 1)) (l.eraseIdx i) := by
  rw [List.eraseIdx_eq_take_drop_succ]
  exact (h.take i).app (h.drop (i + 1))
/-- What is returned goes among the shared slices. -/
theorem Con.fin {P : Program} {f : FuncId} {args : List SV} {rows : List SV} {L : List Buf} {d : List UInt8} {e : Int} {n1 n2 : Nat} (h : Con P f args [] (.tup [.ov 10 0 0 n1, .ov 1 1 0 n2, int e]) [.arr none 10 rows, .arr none 1 (lst b8 d)]) (hr : RowW rows L) (h1 : n1 = L.length) (h2 : n2 = d.length) :
    Con P f args [] (addV (L, d, e)) [] := by
  subst h1 h2
  have hl := hr.len
  have a1 : FzR [.arr none 10 rows, .arr none 1 (lst b8 d)] 0 (.ov 10 0 0 L.length) (.fs ⟨none, false⟩ 10 rows) := FzR.fz (x := none) (Nat.le_refl 0) rfl (by omega) (by rw [List.drop_zero, ← hl, List.take_length])
  have a2 : FzR [.arr none 10 rows, .arr none 1 (lst b8 d)] 0 (.ov 1 1 0 d.length) (.fs ⟨none, false⟩ 1 (lst b8 d)) := FzR.fz (x := none) (Nat.zero_le 1) rfl (by simp [lst]) (by rw [List.drop_zero, lst_take, List.take_length])
  refine (h.fz (r' := .tup [.fs ⟨none, false⟩ 10 rows, .fs ⟨none, false⟩ 1 (lst b8 d), int e]) 0 (Nat.le_refl _) (.tup (.cons a1 (.cons a2 (.cons .same .nil)))) rfl ?_ rfl rfl).wk (.tup (.cons (.fs (by simp [lst, hl]) fun i s s' g1 g2 => ?_) (.cons .rfl (.cons .rfl .nil))))
  · intro k ob _ h2
    match k, h2 with
    | 0, h2 => cases h2; exact ⟨_, _, _, rfl⟩
    | 1, h2 => cases h2; exact ⟨_, _, _, rfl⟩
  · simp only [lst, List.getElem?_map, Option.map_eq_some_iff] at g2
    obtain ⟨b, hb, rfl⟩ := g2
    exact hr.wk i _ _ g1 hb
theorem k_fJoinC (l : List Frg) (t : Tg) (hl : l.length ≤ 1000000) (hd : ∀ f ∈ l, f.data.length ≤ 9223372036854775807) :
    Con Try.prog 41 [.fs t 4 (lst frgC l)] [] (.tup [.ov 1 0 0 (joinR l).1.length, bool (joinR l).2]) [.arr none 1 (lst b8 (joinR l).1)] :=
  (k_fJoin l .no hl hd).le ⟨fun _ _ _ h => (wk_frgs t l).rel1 h, True.intro⟩
theorem k_fresh (src dst : Adr) (f : Frg) (now : Int) (hn : isTm now) (hl : f.data.length ≤ 1000000) :
    Con Try.prog 35 [.pb 0 [], .pb 1 [], .pb 2 [], .pb 3 []] [.cells (int now), .cells (frgV f), .cells (adrV src), .cells (adrV dst)] (.agg [adrV src, adrV dst, .v (.int .u16 f.tag), int f.size, .ov 4 4 0 1, int (min (now + 12) 1099511627776)])
      [.cells (int now), .cells (frgV f), .cells (adrV src), .cells (adrV dst), .arr (some 1) 4 (lst frgC [f])] := by
  have hn1 : 0 ≤ now ∧ now ≤ 1099511627776 := hn
  refine spec_of_run ttok mixed (T0 := 127) (ts := [.cell 4 41]) 22 rfl rfl rfl rfl (by simp) rfl ?_
  conv => whnf
  repeat' (first | with_reducible apply True.intro | ((apply Same.mk rfl); (conv => whnf)) | ((first | ((with_reducible apply Nm.mk); focus ((try simp only [lns]); exact rfl)) | ((with_reducible apply Wr.i64); focus omega) | ((with_reducible apply Need.mk); focus (simp only [lns]; omega)) | (apply CallN.mk (k_cloned f .no hl)) | (with_reducible apply Frz.l)) <;> conv => whnf) | fail)
abbrev keyF (src dst : Adr) (f : Frg) (b : Buf) : Bool := decide (b.src = src ∧ b.dst = dst ∧ b.tag = f.tag ∧ b.size = f.size)
theorem k_Add2 (b : Buf) (src dst : Adr) (f : Frg) (t2 : Tg) (rows : List SV) : Con Try.prog 38 [bufT t2 b rows, .pb 0 [], .pb 1 [], .pb 2 []] [.cells (adrV src), .cells (adrV dst), .cells (frgV f)] (bool (keyF src dst f b)) [.cells (adrV src), .cells (adrV dst), .cells (frgV f)] := by
  have hm := k_matches b t2 rows src dst f.tag f.size
  refine spec_of_run ttok mixed (T0 := 63) (ts := [.tmp 5]) 14 rfl rfl rfl rfl (by simp) rfl ?_
  conv => whnf
  repeat' (first | with_reducible apply True.intro | ((apply Same.mk rfl); (conv => whnf)) | ((first | (apply CallN.mk (hm)) | (with_reducible apply Frz.l)) <;> conv => whnf) | fail)
theorem k_idxA (K : List Buf) (src dst : Adr) (f : Frg) (hl : K.length ≤ 1000000) :
    ConK Try.prog 37 [.ov 10 0 0 K.length, .clo 38 [.pb 1 [], .pb 2 [], .pb 3 []]] [.arr none 10 (lst bufC K), .cells (adrV src), .cells (adrV dst), .cells (frgV f)] (int (idxF (keyF src dst f) K)) [.arr none 10 (lst bufC K), .cells (adrV src), .cells (adrV dst), .cells (frgV f)] := by
  refine spec_of_runK ttok mixed (T0 := 66483) (ts := [.tmp 4]) 19 rfl rfl rfl rfl (by simp) rfl ?_
  conv => whnf
  repeat' (first | ((with_reducible apply Frz.l) <;> conv => whnf) | fail)
  refine loop_keep ttok mixed (T0 := 66483) [7] (ι := {k : Nat // k ≤ K.length ∧ ∀ j, j < k → keyF src dst f (gt K j) = false})
    (fun k => [(0, .ov 10 0 0 K.length), (1, .clo 38 [.pb 1 [], .pb 2 [], .pb 3 []]), (8, int (k.1 : Int))]) (fun _ => [.arr none 10 (lst bufC K), .cells (adrV src), .cells (adrV dst), .cells (frgV f)]) (fun k => K.length - k.1) ⟨0, by omega, none_lt⟩ ?_
  conv => whnf
  repeat' (first | ((apply Same.mk rfl); (conv => whnf)) | ((with_reducible apply Frz.l) <;> conv => whnf) | fail)
  rintro ⟨k, hk, he⟩
  dsimp only
  conv => whnf
  by_cases hkl : k < K.length
  · have c2 := k_Add2 (gt K k) src dst f (tgC (gt K k).parts.length) (lst frgC (gt K k).parts)
    cases hb : keyF src dst f (gt K k)
    · rw [hb] at c2
      repeat' (first | ((first | ((with_reducible apply Nm.mk); focus ((try simp only [lns]); exact rfl)) | ((with_reducible apply Wr.i64); focus omega) | ((with_reducible apply Need.mk); focus omega) | ((with_reducible apply Elem.lst); focus omega) | (apply CallN.mk (c2)) | (with_reducible apply Bif.F) | ((with_reducible apply Bif.dec) <;> intro h <;> (try simp only [lns] at h) <;> (try (exfalso; omega))) | (with_reducible apply Frz.l)) <;> conv => whnf) | fail)
      (refine ⟨⟨k + 1, hkl, step_lt he hb⟩, ?_⟩; (try dsimp only); conv => whnf); repeat' (first | with_reducible apply True.intro | ((apply Same.mk rfl); (conv => whnf)) | ((first | ((with_reducible apply Need.mk); focus omega) | (with_reducible apply Turn.l) | (with_reducible apply Frz.l)) <;> conv => whnf) | fail)
    · rw [hb] at c2
      repeat' (first | with_reducible apply True.intro | ((apply Same.int (idxF_some hkl hb he).symm); (conv => whnf)) | ((apply Same.mk rfl); (conv => whnf)) | ((first | ((with_reducible apply Nm.mk); focus ((try simp only [lns]); exact rfl)) | ((with_reducible apply Need.mk); focus omega) | ((with_reducible apply Elem.lst); focus omega) | (apply CallN.mk (c2)) | (with_reducible apply Bif.T) | ((with_reducible apply Bif.dec) <;> intro h <;> (try simp only [lns] at h) <;> (try (exfalso; omega))) | (with_reducible apply Cut.l) | (with_reducible apply Frz.l)) <;> conv => whnf) | fail)
  · have hkn : k = K.length := by omega
    subst hkn
    repeat' (first | with_reducible apply True.intro | ((apply Same.int (idxF_none he).symm); (conv => whnf)) | ((apply Same.mk rfl); (conv => whnf)) | ((first | ((with_reducible apply Bif.dec) <;> intro h <;> (try simp only [lns] at h) <;> (try (exfalso; omega))) | (with_reducible apply Cut.l) | (with_reducible apply Frz.l)) <;> conv => whnf) | fail)
end Go.Fw
