/- Comparing buffers; alike. -/
import Derived.Test.YteebplkhnhpiiaaRasM
namespace Go.Fw
open Go.Proofs
set_option maxHeartbeats 8000000
set_option maxRecDepth 4000
theorem k_SameAll (a b : List Frg) (t1 t2 : Tg) (hl : a.length ≤ 9223372036854775807) (hd : ∀ f ∈ a, f.data.length ≤ 9223372036854775807) : Con Try.prog 50 [.fs t1 4 (lst frgV a), .fs t2 4 (lst frgV b)] [] (bool (decide (a = b))) [] := by
  refine spec_of_run ttok mixed (T0 := 67126323) (ts := [.tmp 4]) 27 rfl rfl rfl rfl (by simp) rfl ?_
  conv => whnf
  by_cases hn : a.length = b.length
  · repeat' (first | ((first | ((with_reducible apply Nm.mk); focus ((try simp only [lns]); exact rfl)) | ((with_reducible apply Bif.bne) <;> intro h <;> (try simp only [lns] at h) <;> (try (exfalso; omega))) | (with_reducible apply Frz.l)) <;> conv => whnf) | fail)
    refine loop_keep ttok mixed (T0 := 67126323) [0, 1] (ι := {k : Nat // k ≤ a.length ∧ ∀ i, i < k → gt a i = gt b i})
      (fun k => [(5, int (k.1 : Int))]) (fun _ => []) (fun k => a.length - k.1) ⟨0, by omega, none_lt⟩ ?_
    conv => whnf
    repeat' (first | ((first | (with_reducible apply Same.rfl) | (apply Same.int; focus rfl) | (with_reducible apply Frz.l)) <;> conv => whnf) | fail)
    rintro ⟨k, hk, he⟩
    dsimp only
    conv => whnf
    by_cases hkl : k < a.length
    · have cS := k_fSame (gt a k) (gt b k) .no .no (hd _ (gt_mem hkl))
      by_cases hc : gt a k = gt b k
      · rw [decide_eq_true hc] at cS
        repeat' (first | ((first | ((with_reducible apply Nm.mk); focus ((try simp only [lns]); exact rfl)) | ((with_reducible apply Wr.i64); focus omega) | ((with_reducible apply Need.mk); focus first | (simp only [lns]; omega) | kernel_rfl) | ((with_reducible apply Elem.lst); focus omega) | (apply CallN.mk (cS)) | (with_reducible apply Bif.T) | ((with_reducible apply Bif.dec) <;> intro h <;> (try simp only [lns] at h) <;> (try (exfalso; omega))) | (with_reducible apply Bif.not) | (with_reducible apply Frz.l)) <;> conv => whnf) | fail)
        (refine ⟨⟨k + 1, by omega, step_lt he hc⟩, ?_⟩; (try dsimp only); conv => whnf); repeat' (first | with_reducible apply True.intro | ((first | ((with_reducible apply Need.mk); focus omega) | (with_reducible apply Same.rfl) | (apply Same.int; focus rfl) | (with_reducible apply Turn.l) | (with_reducible apply Frz.l)) <;> conv => whnf) | fail)
      · rw [decide_eq_false hc] at cS
        repeat' (first | with_reducible apply True.intro | ((apply Same.bool (show false = _ by symm; rw [decide_eq_false_iff_not]; intro h; rw [h] at hc; exact hc rfl)); (conv => whnf)) | ((first | ((with_reducible apply Nm.mk); focus ((try simp only [lns]); exact rfl)) | ((with_reducible apply Need.mk); focus first | (simp only [lns]; omega) | kernel_rfl) | ((with_reducible apply Elem.lst); focus omega) | (apply CallN.mk (cS)) | (with_reducible apply Bif.F) | ((with_reducible apply Bif.dec) <;> intro h <;> (try simp only [lns] at h) <;> (try (exfalso; omega))) | (with_reducible apply Bif.not) | (with_reducible apply Frz.l)) <;> conv => whnf) | fail)
    · have e : a = b := ext_gt hn fun i hi => he i (by omega)
      rw [decide_eq_true e]
      repeat' (first | with_reducible apply True.intro | ((first | ((with_reducible apply Nm.mk); focus ((try simp only [lns]); exact rfl)) | ((with_reducible apply Bif.dec) <;> intro h <;> (try simp only [lns] at h) <;> (try (exfalso; omega))) | (apply Same.bool; focus (with_reducible rfl)) | (with_reducible apply Frz.l)) <;> conv => whnf) | fail)
  · repeat' (first | ((first | ((with_reducible apply Nm.mk); focus ((try simp only [lns]); exact rfl)) | ((with_reducible apply Bif.bne) <;> intro h <;> (try simp only [lns] at h) <;> (try (exfalso; omega))) | (with_reducible apply Frz.l)) <;> conv => whnf) | fail)
    apply Same.bool (show false = _ by symm; rw [decide_eq_false_iff_not]; intro h; rw [h] at hn; exact hn rfl)
    conv => whnf
    repeat' (first | with_reducible apply True.intro | ((with_reducible apply Frz.l) <;> conv => whnf) | fail)
theorem buf_iff {a b : Buf} : a = b ↔ keyB a b = true ∧ a.upto = b.upto ∧ a.parts = b.parts := by
  rw [keyB_iff]
  constructor
  · intro h; subst h; simp
  · rintro ⟨⟨h1, h2, h3, h4⟩, h5, h6⟩; cases a; cases b; simp_all
theorem k_bufSame (a b : List Buf) (t1 t2 : Tg) (ha : sizL a) : Con Try.prog 22 [.fs t1 10 (lst bufV a), .fs t2 10 (lst bufV b)] [] (bool (decide (a = b))) [] := by
  obtain ⟨hl, hs⟩ := ha
  refine spec_of_run ttok mixed (T0 := 9007199254758451) (ts := [.tmp 4]) 54 rfl rfl rfl rfl (by simp) rfl ?_
  conv => whnf
  by_cases hn : a.length = b.length
  · repeat' (first | ((first | ((with_reducible apply Nm.mk); focus ((try simp only [lns]); exact rfl)) | ((with_reducible apply Bif.bne) <;> intro h <;> (try simp only [lns] at h) <;> (try (exfalso; omega))) | (with_reducible apply Frz.l)) <;> conv => whnf) | fail)
    refine loop_keep ttok mixed (T0 := 9007199254758451) [0, 1] (ι := {k : Nat // k ≤ a.length ∧ ∀ i, i < k → gt a i = gt b i})
      (fun k => [(5, int (k.1 : Int))]) (fun _ => []) (fun k => a.length - k.1) ⟨0, by omega, none_lt⟩ ?_
    conv => whnf
    repeat' (first | ((first | (with_reducible apply Same.rfl) | (apply Same.int; focus rfl) | (with_reducible apply Frz.l)) <;> conv => whnf) | fail)
    rintro ⟨k, hk, he⟩
    dsimp only
    conv => whnf
    by_cases hkl : k < a.length
    · have hsk := hs _ (gt_mem hkl)
      have cK := k_same (gt a k) (gt b k) .no .no (lst frgV (gt a k).parts) (lst frgV (gt b k).parts)
      have cA := k_SameAll (gt a k).parts (gt b k).parts .no .no hsk.1 hsk.2
      have hi := @buf_iff (gt a k) (gt b k)
      by_cases hc : gt a k = gt b k
      · obtain ⟨h1, h2, h3⟩ := hi.1 hc
        rw [h1] at cK
        rw [decide_eq_true h3] at cA
        repeat' (first | ((first | ((with_reducible apply Nm.mk); focus ((try simp only [lns]); exact rfl)) | ((with_reducible apply Wr.i64); focus omega) | ((with_reducible apply Need.mk); focus first | (simp only [lns]; omega) | kernel_rfl) | ((with_reducible apply Elem.lst); focus omega) | (apply CallN.mk (cK)) | (apply CallN.mk (cA)) | (with_reducible first | apply Bif.T | apply Bif.F) | ((with_reducible first | apply Bif.dec | apply Bif.bne) <;> intro h <;> (try simp only [lns] at h) <;> (try (exfalso; omega))) | (with_reducible apply Bif.not) | (with_reducible apply Frz.l)) <;> conv => whnf) | fail)
        (refine ⟨⟨k + 1, by omega, step_lt he hc⟩, ?_⟩; (try dsimp only); conv => whnf); repeat' (first | with_reducible apply True.intro | ((first | ((with_reducible apply Need.mk); focus omega) | (with_reducible apply Same.rfl) | (apply Same.int; focus rfl) | (with_reducible apply Turn.l) | (with_reducible apply Frz.l)) <;> conv => whnf) | fail)
      · have hne : decide (a = b) = false := by rw [decide_eq_false_iff_not]; intro h; rw [h] at hc; exact hc rfl
        rw [hne]
        cases h1 : keyB (gt a k) (gt b k)
        · rw [h1] at cK
          repeat' (first | with_reducible apply True.intro | ((first | ((with_reducible apply Nm.mk); focus ((try simp only [lns]); exact rfl)) | ((with_reducible apply Need.mk); focus first | (simp only [lns]; omega) | kernel_rfl) | ((with_reducible apply Elem.lst); focus omega) | (apply CallN.mk (cK)) | (with_reducible first | apply Bif.T | apply Bif.F) | ((with_reducible apply Bif.dec) <;> intro h <;> (try simp only [lns] at h) <;> (try (exfalso; omega))) | (with_reducible apply Bif.not) | (apply Same.bool; focus (with_reducible rfl)) | (with_reducible apply Frz.l)) <;> conv => whnf) | fail)
        · rw [h1] at cK
          by_cases h2 : (gt a k).upto = (gt b k).upto
          · have h3 : ¬ (gt a k).parts = (gt b k).parts := fun h3 => hc (hi.2 ⟨h1, h2, h3⟩)
            rw [decide_eq_false h3] at cA
            repeat' (first | with_reducible apply True.intro | ((first | ((with_reducible apply Nm.mk); focus ((try simp only [lns]); exact rfl)) | ((with_reducible apply Need.mk); focus first | (simp only [lns]; omega) | kernel_rfl) | ((with_reducible apply Elem.lst); focus omega) | (apply CallN.mk (cK)) | (apply CallN.mk (cA)) | (with_reducible first | apply Bif.T | apply Bif.F) | ((with_reducible first | apply Bif.dec | apply Bif.bne) <;> intro h <;> (try simp only [lns] at h) <;> (try (exfalso; omega))) | (with_reducible apply Bif.not) | (apply Same.bool; focus (with_reducible rfl)) | (with_reducible apply Frz.l)) <;> conv => whnf) | fail)
          · repeat' (first | with_reducible apply True.intro | ((first | ((with_reducible apply Nm.mk); focus ((try simp only [lns]); exact rfl)) | ((with_reducible apply Need.mk); focus first | (simp only [lns]; omega) | kernel_rfl) | ((with_reducible apply Elem.lst); focus omega) | (apply CallN.mk (cK)) | (with_reducible first | apply Bif.T | apply Bif.F) | ((with_reducible first | apply Bif.dec | apply Bif.bne) <;> intro h <;> (try simp only [lns] at h) <;> (try (exfalso; omega))) | (with_reducible apply Bif.not) | (apply Same.bool; focus (with_reducible rfl)) | (with_reducible apply Frz.l)) <;> conv => whnf) | fail)
    · have e : a = b := ext_gt hn fun i hi => he i (by omega)
      rw [decide_eq_true e]
      repeat' (first | with_reducible apply True.intro | ((first | ((with_reducible apply Nm.mk); focus ((try simp only [lns]); exact rfl)) | ((with_reducible apply Bif.dec) <;> intro h <;> (try simp only [lns] at h) <;> (try (exfalso; omega))) | (apply Same.bool; focus (with_reducible rfl)) | (with_reducible apply Frz.l)) <;> conv => whnf) | fail)
  · repeat' (first | ((first | ((with_reducible apply Nm.mk); focus ((try simp only [lns]); exact rfl)) | ((with_reducible apply Bif.bne) <;> intro h <;> (try simp only [lns] at h) <;> (try (exfalso; omega))) | (with_reducible apply Frz.l)) <;> conv => whnf) | fail)
    apply Same.bool (show false = _ by symm; rw [decide_eq_false_iff_not]; intro h; rw [h] at hn; exact hn rfl)
    conv => whnf
    repeat' (first | with_reducible apply True.intro | ((with_reducible apply Frz.l) <;> conv => whnf) | fail)
/-- What Expire returns goes among the shared slices. -/
theorem Con.finE {P : Program} {f : FuncId} {args : List SV} {rows : List SV} {L : List Buf} {e : Int} (h : Con P f args [] (.tup [.ov 10 0 0 L.length, int e]) [.arr none 10 rows]) (hr : RowW rows L) :
    Con P f args [] (.tup [.fs .no 10 (lst bufV L), int e]) [] := by
  have hl := hr.len
  have a1 : FzR [.arr none 10 rows] 0 (.ov 10 0 0 L.length) (.fs ⟨none, false⟩ 10 rows) := FzR.fz (x := none) (Nat.le_refl 0) rfl (by omega) (by rw [List.drop_zero, ← hl, List.take_length])
  refine (h.fz (r' := .tup [.fs ⟨none, false⟩ 10 rows, int e]) 0 (Nat.le_refl _) (.tup (.cons a1 (.cons .same .nil))) rfl ?_ rfl rfl).wk (.tup (.cons (.fs (by simp [lst, hl]) fun i s s' g1 g2 => ?_) (.cons .rfl .nil)))
  · intro k ob _ h2
    match k, h2 with
    | 0, h2 => cases h2; exact ⟨_, _, _, rfl⟩
  · simp only [lst, List.getElem?_map, Option.map_eq_some_iff] at g2
    obtain ⟨b, hb, rfl⟩ := g2
    exact hr.wk i _ _ g1 hb
theorem expM_siz {l : List Buf} (h : sizL l) (now : Int) : sizL (expM l now).1 := by
  have h1 := expB_len l now
  unfold expM
  split
  · split
    · exact ⟨by have := h.1; dsimp only; omega, fun b hb => h.2 b (List.mem_filter.1 hb).1⟩
    · exact ⟨by simp, fun b hb => by cases hb⟩
  · exact ⟨by simp, fun b hb => by cases hb⟩
theorem insF_mem {f x : Frg} {l : List Frg} (h : x ∈ insF f l) : x ∈ l ∨ x = f := by
  simp only [insF, List.mem_append, List.mem_singleton] at h
  rcases h with (h | h) | h
  · exact .inl (List.mem_of_mem_take h)
  · exact .inr h
  · exact .inl (List.mem_of_mem_drop h)
theorem withB_siz {b fr : Buf} {f : Frg} (hb : validB b = true) (hf : f.data.length ≤ 9223372036854775807) (hfr : sizB fr) : sizB (withB b f fr) := by
  obtain ⟨h1, h2⟩ := validB_parts hb
  unfold withB addP
  split
  · rename_i ps hps
    split at hps
    · cases hps; exact ⟨by dsimp only; omega, fun x hx => by have := (h2 x hx).2; omega⟩
    · split at hps
      · cases hps
      · cases hps
        refine ⟨?_, fun x hx => ?_⟩
        · have := posF_le f b.parts
          simp [insF]; omega
        · rcases insF_mem hx with h | h
          · have := (h2 x h).2; omega
          · rw [h]; exact hf
  · exact hfr
theorem finB_siz {L : List Buf} {i : Nat} (h : sizL L) : sizL (finB L i).1 := by
  unfold finB
  split
  · exact h
  · exact ⟨by have := h.1; have := List.length_eraseIdx_le L i; dsimp only; omega, fun b hb => h.2 b (List.mem_of_mem_eraseIdx hb)⟩
theorem addM_siz {l : List Buf} (h : sizL l) (src dst : Adr) (f : Frg) (hf : f.data.length ≤ 9223372036854775807) (now : Int) : sizL (addM l src dst f now).1 := by
  have hnil : sizL [] := ⟨by simp, fun b hb => by cases hb⟩
  have hfr : sizB (freshB src dst f now) := ⟨by simp [freshB], fun x hx => by rw [List.mem_singleton.1 hx]; exact hf⟩
  by_cases hok : validL l = true ∧ someA src = true ∧ someA dst = true ∧ okF f = true
  case neg => rw [addM_bad hok]; exact hnil
  by_cases hn : isTm now
  case neg => rw [addM_time hok hn]; exact hnil
  have hE : sizL (expB l now) := by
    have := expM_siz h now
    rwa [show expM l now = (expB l now, 0) by rw [expM, if_pos hok.1, if_pos hn]] at this
  have hlen := expB_len l now
  have hv := validL_iff.1 hok.1
  rw [addM_ok hok hn]
  split
  · rename_i hany
    refine finB_siz ⟨by rw [List.length_set]; omega, fun b hb => ?_⟩
    rcases List.mem_or_eq_of_mem_set hb with h1 | h1
    · exact hE.2 b h1
    · rw [h1]
      refine withB_siz ?_ hf hfr
      rcases idxF_cases (keyF src dst f) (expB l now) with ⟨hx, _⟩ | ⟨i, hi, hx, _, _⟩
      · have := idxF_any (keyF src dst f) (expB l now)
        rw [hx, hany] at this
        cases this
      · rw [hx, Int.toNat_natCast]
        have := (List.mem_filter.1 (gt_mem hi)).1
        obtain ⟨j, hj, e⟩ := List.mem_iff_getElem.1 this
        have e : l[j] = gt (expB l now) i := e
        rw [← e, ← gt_eq hj]; exact (hv.2 j hj).1
  · split
    · exact hnil
    · refine finB_siz ⟨by rw [List.length_append, List.length_singleton]; omega, fun b hb => ?_⟩
      rcases List.mem_append.1 hb with h1 | h1
      · exact hE.2 b h1
      · rw [List.mem_singleton.1 h1]; exact hfr
theorem jfold_len {s t : Int} : ∀ {l : List Frg} {x y : JS}, x.out.length = s.toNat → jfold s t x l = some y → y.out.length = s.toNat
  | [], x, y, h, e => by cases e; exact h
  | f :: r, x, y, h, e => by
    rw [jfold] at e
    unfold jstep at e
    by_cases hx : okF f = true ∧ f.size = s ∧ f.tag = t
    · have ho := okF_iff.1 hx.1
      have hs := hx.2.1
      rw [if_pos hx] at e
      split at e
      · rename_i y' hy
        split at hy
        · cases hy
        · cases hy
          refine jfold_len ?_ e
          rw [← h]; exact putL_len (by omega)
      · cases e
    · rw [if_neg hx] at e
      cases e
theorem joinF_len {l : List Frg} {o : List UInt8} (h : joinF l = some o) : o.length ≤ 2047 := by
  unfold joinF at h
  split at h
  · cases h
  · rename_i f r
    split at h
    · rename_i hf
      split at h
      · rename_i x hx
        split at h
        · cases h
          have := jfold_len (by simp [js0]) hx
          have := okF_iff.1 hf
          omega
        · cases h
      · cases h
    · cases h
theorem finB_len (L : List Buf) (i : Nat) : (finB L i).2.1.length ≤ 2047 := by
  unfold finB
  split
  · simp
  · exact joinF_len ‹_›
theorem addM_len (l : List Buf) (src dst : Adr) (f : Frg) (now : Int) : (addM l src dst f now).2.1.length ≤ 2047 := by
  by_cases hok : validL l = true ∧ someA src = true ∧ someA dst = true ∧ okF f = true
  case neg => rw [addM_bad hok]; simp
  by_cases hn : isTm now
  case neg => rw [addM_time hok hn]; simp
  rw [addM_ok hok hn]
  split
  · exact finB_len _ _
  · split
    · simp
    · exact finB_len _ _
theorem k_alike (l : List Buf) (src dst : Adr) (f : Frg) (now : Int) (t : Tg) (hl : sizL l) (hf : f.data.length ≤ 9223372036854775807) :
    Con Try.prog 17 [.fs t 10 (lst bufV l), adrV src, adrV dst, frgV f, int now] [] (bool true) [] := by
  have c1 := fun t => k_xAdd l t hl src dst f hf now
  have c2 := fun t => k_rAdd l t hl src dst f hf now
  have c3 := fun t => (k_xExpire l t hl now).finE (RowW.all _)
  have c4 := fun t => (k_rExpire l t hl now).finE (RowW.allV _)
  have c5 := fun t => k_Valid l t hl
  have c6 := fun t => k_rValid l t hl
  have c7 := fun t1 t2 => k_bufSame (addM l src dst f now).1 (addM l src dst f now).1 t1 t2 (addM_siz hl src dst f hf now)
  have c8 := fun t1 t2 => k_octSame (addM l src dst f now).2.1 (addM l src dst f now).2.1 t1 t2 (by have := addM_len l src dst f now; omega)
  have c9 := fun t1 t2 => k_bufSame (expM l now).1 (expM l now).1 t1 t2 (expM_siz hl now)
  rw [decide_eq_true rfl] at c7 c8 c9
  refine spec_of_run ttok mixed (T0 := 2096607) (ts := [.tmp 10]) 83 rfl rfl rfl rfl (by simp) rfl ?_
  conv => whnf
  repeat' (first | with_reducible apply True.intro | ((first | (apply CallN.mk (c1 _)) | (apply CallN.mk (c2 _)) | (apply CallN.mk (c3 _)) | (apply CallN.mk (c4 _)) | (apply CallN.mk (c5 _)) | (apply CallN.mk (c6 _)) | (apply CallN.mk (c7 _ _)) | (apply CallN.mk (c8 _ _)) | (apply CallN.mk (c9 _ _)) | (with_reducible apply Bif.T) | ((with_reducible apply Bif.beq) <;> intro h <;> (try simp only [lns] at h) <;> (try first | (exfalso; omega) | (exact absurd rfl h))) | (with_reducible apply Same.rfl) | (with_reducible apply Frz.l)) <;> conv => whnf) | fail)
end Go.Fw
