/- The reference's Add. -/
import Derived.Test.YteebplkhnhpiiaaRasL
namespace Go.Fw
open Go.Proofs
set_option maxHeartbeats 8000000
set_option maxRecDepth 4000
theorem wk_bufV (t : Tg) (b : Buf) : Wk (bufT t b (lst frgV b.parts)) (bufV b) := .cons .rfl (.cons .rfl (.cons .rfl (.cons .rfl (.cons .tag .rfl))))
theorem RowW.allV (L : List Buf) : RowW (lst bufV L) L := ⟨by simp [lst], fun i s b h1 h2 => by
  simp only [lst, List.getElem?_map, h2, Option.map_some, Option.some.injEq] at h1
  subst h1
  exact .rfl⟩
theorem RowW.one {s : SV} {b : Buf} (h : Wk s (bufV b)) : RowW [s] [b] := ⟨rfl, fun i s' b' h1 h2 => by
  cases i with
  | zero => cases h1; cases h2; exact h
  | succ i => simp at h1⟩
/-- The same, where the first result is a shared slice already. -/
theorem Con.finS {P : Program} {f : FuncId} {args : List SV} {rows : List SV} {t : Tg} {L : List Buf} {d : List UInt8} {e : Int} {n2 : Nat} (h : Con P f args [] (.tup [.fs t 10 rows, .ov 1 0 0 n2, int e]) [.arr none 1 (lst b8 d)]) (hr : RowW rows L) (h2 : n2 = d.length) :
    Con P f args [] (addV (L, d, e)) [] := by
  subst h2
  have hl := hr.len
  have a2 : FzR [.arr none 1 (lst b8 d)] 0 (.ov 1 0 0 d.length) (.fs ⟨none, false⟩ 1 (lst b8 d)) := FzR.fz (x := none) (Nat.le_refl 0) rfl (by simp [lst]) (by rw [List.drop_zero, lst_take, List.take_length])
  refine (h.fz (r' := .tup [.fs t 10 rows, .fs ⟨none, false⟩ 1 (lst b8 d), int e]) 0 (Nat.le_refl _) (.tup (.cons .same (.cons a2 (.cons .same .nil)))) rfl ?_ rfl rfl).wk (.tup (.cons (.fs (by simp [lst, hl]) fun i s s' g1 g2 => ?_) (.cons .rfl (.cons .rfl .nil))))
  · intro k ob _ h2
    match k, h2 with
    | 0, h2 => cases h2; exact ⟨_, _, _, rfl⟩
  · simp only [lst, List.getElem?_map, Option.map_eq_some_iff] at g2
    obtain ⟨b, hb, rfl⟩ := g2
    exact hr.wk i _ _ g1 hb
theorem keyB_F (b : Buf) (src dst : Adr) (f : Frg) (now : Int) : keyB b (freshB src dst f now) = keyF src dst f b := rfl
theorem k_rAdd (l : List Buf) (t : Tg) (hl : sizL l) (src dst : Adr) (f : Frg) (hd : f.data.length ≤ 9223372036854775807) (now : Int) :
    Con Try.prog 21 [.fs t 10 (lst bufV l), adrV src, adrV dst, frgV f, int now] [] (addV (addM l src dst f now)) [] := by
  have cV := k_rValid l t hl
  have cS := k_refSome src
  have cD := k_refSome dst
  have cF := k_rfValid f .no hd
  by_cases hok : validL l = true ∧ someA src = true ∧ someA dst = true ∧ okF f = true
  case neg =>
    rw [addM_bad hok]
    refine Con.fin (rows := []) (n1 := 0) (n2 := 0) ?_ ⟨rfl, fun i s b h => by simp at h⟩ rfl rfl
    refine spec_of_run ttok mixed (T0 := 1298153445232962276648615462567391) (ts := [.tmp 10, .tmp 11, .tmp 12]) 122 rfl rfl rfl rfl (by simp) rfl ?_
    conv => whnf
    repeat' (first | with_reducible apply True.intro | ((first | (apply CallN.mk (cV)) | (apply CallN.mk (cS)) | (apply CallN.mk (cD)) | (apply CallN.mk (cF)) | (with_reducible first | apply Bif.T | apply Bif.F) | (with_reducible apply Bif.not) | ((with_reducible apply Bif.mk) <;> intro h) | (with_reducible apply Same.rfl) | (apply Same.int; focus rfl) | (apply Same.rfl) | (with_reducible apply Frz.l)) <;> conv => whnf) | fail)
    all_goals (exact absurd ⟨‹_›, ‹_›, ‹_›, ‹_›⟩ hok)
  have hok2 := hok
  obtain ⟨o1, o2, o3, o4⟩ := hok2
  rw [o1] at cV
  rw [o2] at cS
  rw [o3] at cD
  rw [o4] at cF
  have cE := k_rExpire l t hl now
  by_cases hn : isTm now
  case neg =>
    rw [addM_time hok hn]
    rw [show expM l now = ([], 2) by rw [expM, if_pos o1, if_neg hn]] at cE
    refine Con.fin (rows := []) (n1 := 0) (n2 := 0) ?_ ⟨rfl, fun i s b h => by simp at h⟩ rfl rfl
    refine spec_of_run ttok mixed (T0 := 1298153445232962276648615462567391) (ts := [.tmp 10, .tmp 11, .tmp 12]) 122 rfl rfl rfl rfl (by simp) rfl ?_
    conv => whnf
    repeat' (first | with_reducible apply True.intro | ((first | (apply CallN.mk (cV)) | (apply CallN.mk (cS)) | (apply CallN.mk (cD)) | (apply CallN.mk (cF)) | (apply CallN.mk (cE)) | (with_reducible first | apply Bif.T | apply Bif.F) | ((with_reducible apply Bif.bne) <;> intro h <;> (try simp only [lns] at h) <;> (try (exfalso; omega))) | (with_reducible apply Bif.not) | (with_reducible apply Same.rfl) | (apply Same.rfl) | (with_reducible apply Frz.l)) <;> conv => whnf) | fail)
  rw [addM_ok hok hn]
  rw [show expM l now = (expB l now, 0) by rw [expM, if_pos o1, if_pos hn]] at cE
  dsimp only at cE
  have hK := (expB_len l now)
  have hl4 := (validL_iff.1 o1).1
  have hKv : ∀ b ∈ expB l now, validB b = true := fun b hb => by
    have := (List.mem_filter.1 hb).1
    obtain ⟨i, hi, rfl⟩ := List.mem_iff_getElem.1 this
    rw [← gt_eq hi]; exact ((validL_iff.1 o1).2 i hi).1
  generalize expB l now = K at *
  have hff := okF_iff.1 o4
  have cCp := k_copiedO [f] 1 (by simp) (by simp; omega)
  have cLt := k_recLater now 12 hn (by omega)
  have cSm := fun b t r => k_same b (freshB src dst f now) .no t (lst frgV b.parts) r
  simp only [keyB_F] at cSm
  rcases idxF_cases (keyF src dst f) K with ⟨hx, he⟩ | ⟨i, hi, hx, hp, he⟩
  · have hany : K.any (keyF src dst f) = false := by rw [← idxF_any, hx]; rfl
    rw [hany, if_neg (by simp)]
    by_cases h4 : 4 ≤ K.length
    · rw [if_pos h4]
      have h5 : K.length = 4 := by omega
      refine Con.fin (rows := []) (n1 := 0) (n2 := 0) ?_ ⟨rfl, fun i s b h => by simp at h⟩ rfl rfl
      refine spec_of_run ttok mixed (T0 := 1298153445232962276648615462567391) (ts := [.tmp 10, .tmp 11, .tmp 12]) 122 rfl rfl rfl rfl (by simp) rfl ?_
      conv => whnf
      repeat' (first | ((with_reducible apply GiveN.mk [0]); (conv => whnf); (apply CallN.mk cCp); (conv => whnf)) | ((first | ((with_reducible apply Nm.mk); focus ((try simp only [lns]); exact rfl)) | ((with_reducible apply Need.mk); focus first | (simp only [lns]; omega) | kernel_rfl) | ((with_reducible apply Elem.lst); focus (simp only [lns]; omega)) | (apply CallN.mk (cV)) | (apply CallN.mk (cS)) | (apply CallN.mk (cD)) | (apply CallN.mk (cF)) | (apply CallN.mk (cE)) | (apply CallN.mk (cLt)) | (with_reducible first | apply Bif.T | apply Bif.F) | ((with_reducible apply Bif.bne) <;> intro h <;> (try simp only [lns] at h) <;> (try (exfalso; omega))) | (with_reducible apply Bif.not) | (with_reducible apply Frz.l)) <;> conv => whnf) | fail)
      refine loop_keep ttok mixed (T0 := 1298153445232962276648615462567391) [] (ι := {k : Nat // k ≤ K.length ∧ ∀ j, j < k → keyF src dst f (gt K j) = false})
        (fun k => [(8, .pb 2 []), (13, .ov 10 3 0 K.length), (15, .pb 7 []), (16, int (k.1 : Int))]) (fun _ => [.cells (adrV src), .cells (adrV dst), .cells (frgV f), .arr none 10 (lst bufV K), .gone, .arr none 4 (lst frgV [f]), .arr (some 1) 4 [frgV f], .cells (.agg [adrV src, adrV dst, .v (.int .u16 f.tag), int f.size, .ov 4 6 0 1, int (min (now + 12) 1099511627776)])]) (fun k => K.length - k.1) ⟨0, by omega, none_lt⟩ ?_
      conv => whnf
      repeat' (first | ((apply Same.mk rfl); (conv => whnf)) | ((with_reducible apply Frz.l) <;> conv => whnf) | fail)
      rintro ⟨k, hk, hek⟩
      dsimp only
      conv => whnf
      by_cases hkl : k < K.length
      · have hkf : keyF src dst f (gt K k) = false := he k (by omega)
        have cSk := cSm (gt K k)
        simp only [hkf] at cSk
        repeat' (first | ((first | ((with_reducible apply Nm.mk); focus ((try simp only [lns]); exact rfl)) | ((with_reducible apply Wr.i64); focus omega) | ((with_reducible apply Need.mk); focus first | omega | (simp only [lns]; omega) | exact CleanP.nil rfl | kernel_rfl) | ((with_reducible apply Elem.lst); focus omega) | (apply CallN.mk (cSk _ _)) | (with_reducible first | apply Bif.T | apply Bif.F) | ((with_reducible apply Bif.dec) <;> intro h <;> (try simp only [lns] at h) <;> (try (exfalso; omega))) | (with_reducible apply Bif.not) | (with_reducible apply GiveN.lend) | (with_reducible apply Frz.l)) <;> conv => whnf) | fail)
        (refine ⟨⟨k + 1, by omega, step_lt hek hkf⟩, ?_⟩; (try dsimp only); conv => whnf); repeat' (first | with_reducible apply True.intro | ((apply Same.mk rfl); (conv => whnf)) | ((first | ((with_reducible apply Need.mk); focus omega) | (with_reducible apply Turn.l) | (with_reducible apply Frz.l)) <;> conv => whnf) | fail)
      · obtain rfl : k = K.length := by omega
        repeat' (first | with_reducible apply True.intro | ((first | ((with_reducible apply Need.mk); focus kernel_rfl) | (with_reducible apply Bif.F) | ((with_reducible first | apply Bif.dec | apply Bif.beq) <;> intro h <;> (try simp only [lns] at h) <;> (try (exfalso; omega))) | (with_reducible apply Same.rfl) | (apply Same.int; focus rfl) | (apply Same.rfl) | (with_reducible apply Frz.l)) <;> conv => whnf) | fail)
    · rw [if_neg h4, finB_eq (ps := [f]) (by rw [gt_snoc]; rfl)]
      have cJ := fun t => k_rJoin [f] t (by simp) (by simpa using hd)
      have hrw : RowW (lst bufV K ++ [bufT (tgC 1) (freshB src dst f now) (lst frgV [f])]) (K ++ [freshB src dst f now]) := (RowW.allV K).app (RowW.one (wk_bufV _ (freshB src dst f now)))
      cases hj : (joinR [f]).2
      · simp only [hj] at cJ
        rw [if_neg (by simp)]
        refine Con.fin (rows := lst bufV K ++ [bufT (tgC 1) (freshB src dst f now) (lst frgV [f])]) (n1 := K.length + 1) (n2 := 0) ?_ hrw (by simp) rfl
        refine spec_of_run ttok mixed (T0 := 1298153445232962276648615462567391) (ts := [.tmp 10, .tmp 11, .tmp 12]) 122 rfl rfl rfl rfl (by simp) rfl ?_
        conv => whnf
        repeat' (first | ((with_reducible apply GiveN.mk [0]); (conv => whnf); (apply CallN.mk cCp); (conv => whnf)) | ((first | ((with_reducible apply Nm.mk); focus ((try simp only [lns]); exact rfl)) | ((with_reducible apply Need.mk); focus first | (simp only [lns]; omega) | kernel_rfl) | ((with_reducible apply Elem.lst); focus (simp only [lns]; omega)) | (apply CallN.mk (cV)) | (apply CallN.mk (cS)) | (apply CallN.mk (cD)) | (apply CallN.mk (cF)) | (apply CallN.mk (cE)) | (apply CallN.mk (cLt)) | (with_reducible first | apply Bif.T | apply Bif.F) | ((with_reducible apply Bif.bne) <;> intro h <;> (try simp only [lns] at h) <;> (try (exfalso; omega))) | (with_reducible apply Bif.not) | (with_reducible apply Frz.l)) <;> conv => whnf) | fail)
        refine loop_keep ttok mixed (T0 := 1298153445232962276648615462567391) [] (ι := {k : Nat // k ≤ K.length ∧ ∀ j, j < k → keyF src dst f (gt K j) = false})
          (fun k => [(8, .pb 2 []), (13, .ov 10 3 0 K.length), (15, .pb 7 []), (16, int (k.1 : Int))]) (fun _ => [.cells (adrV src), .cells (adrV dst), .cells (frgV f), .arr none 10 (lst bufV K), .gone, .arr none 4 (lst frgV [f]), .arr (some 1) 4 [frgV f], .cells (.agg [adrV src, adrV dst, .v (.int .u16 f.tag), int f.size, .ov 4 6 0 1, int (min (now + 12) 1099511627776)])]) (fun k => K.length - k.1) ⟨0, by omega, none_lt⟩ ?_
        conv => whnf
        repeat' (first | ((apply Same.mk rfl); (conv => whnf)) | ((with_reducible apply Frz.l) <;> conv => whnf) | fail)
        rintro ⟨k, hk, hek⟩
        dsimp only
        conv => whnf
        by_cases hkl : k < K.length
        · have hkf : keyF src dst f (gt K k) = false := he k (by omega)
          have cSk := cSm (gt K k)
          simp only [hkf] at cSk
          repeat' (first | ((first | ((with_reducible apply Nm.mk); focus ((try simp only [lns]); exact rfl)) | ((with_reducible apply Wr.i64); focus omega) | ((with_reducible apply Need.mk); focus first | omega | (simp only [lns]; omega) | exact CleanP.nil rfl | kernel_rfl) | ((with_reducible apply Elem.lst); focus omega) | (apply CallN.mk (cSk _ _)) | (with_reducible first | apply Bif.T | apply Bif.F) | ((with_reducible apply Bif.dec) <;> intro h <;> (try simp only [lns] at h) <;> (try (exfalso; omega))) | (with_reducible apply Bif.not) | (with_reducible apply GiveN.lend) | (with_reducible apply Frz.l)) <;> conv => whnf) | fail)
          (refine ⟨⟨k + 1, by omega, step_lt hek hkf⟩, ?_⟩; (try dsimp only); conv => whnf); repeat' (first | with_reducible apply True.intro | ((apply Same.mk rfl); (conv => whnf)) | ((first | ((with_reducible apply Need.mk); focus omega) | (with_reducible apply Turn.l) | (with_reducible apply Frz.l)) <;> conv => whnf) | fail)
        · obtain rfl : k = K.length := by omega
          repeat' (first | with_reducible apply True.intro | ((apply Elem.mk _ (elem_snoc (by simp [lst]))); (conv => whnf)) | ((apply Same.mk rfl); (conv => whnf)) | ((first | ((with_reducible apply Nm.mk); focus ((try simp only [lns]); exact rfl)) | ((with_reducible apply Need.mk); focus first | omega | (simp only [lns]; omega) | kernel_rfl | (unfold roomOK; simp only [lns]; omega)) | (apply CallN.mk (cJ _)) | (with_reducible apply Bif.F) | ((with_reducible first | apply Bif.dec | apply Bif.beq) <;> intro h <;> (try simp only [lns] at h) <;> (try (exfalso; omega))) | (with_reducible apply Bif.not) | (with_reducible first | apply Alt.l | apply Cut.l) | (with_reducible apply Frz.l)) <;> conv => whnf) | fail)
      · simp only [hj] at cJ
        rw [if_pos rfl]
        have e1 : ((K.length : Int) + 1).toNat = K.length + 1 := by omega
        have hB : ∀ X : SV, List.take (K.length + 1) (lst bufV K ++ [X]) = lst bufV K ++ [X] := fun X => List.take_of_length_le (by simp [lst])
        have hC : ∀ X : SV, List.drop (K.length + 1) (lst bufV K ++ [X]) = [] := fun X => List.drop_of_length_le (by simp [lst])
        have hT : ∀ X : SV, List.take K.length (lst bufV K ++ [X]) = lst bufV K := fun X => by
          rw [List.take_append_of_le_length (by simp [lst]), List.take_of_length_le (by simp [lst])]
        refine Con.finS (rows := lst bufV K) (t := tgC K.length) (n2 := (joinR [f]).1.length) ?_ (by rw [List.eraseIdx_append_of_length_le (Nat.le_refl _)]; simpa using RowW.allV K) rfl
        refine spec_of_run ttok mixed (T0 := 1298153445232962276648615462567391) (ts := [.tmp 10, .tmp 11, .tmp 12]) 122 rfl rfl rfl rfl (by simp) rfl ?_
        conv => whnf
        repeat' (first | ((with_reducible apply GiveN.mk [0]); (conv => whnf); (apply CallN.mk cCp); (conv => whnf)) | ((first | ((with_reducible apply Nm.mk); focus ((try simp only [lns]); exact rfl)) | ((with_reducible apply Need.mk); focus first | (simp only [lns]; omega) | kernel_rfl) | ((with_reducible apply Elem.lst); focus (simp only [lns]; omega)) | (apply CallN.mk (cV)) | (apply CallN.mk (cS)) | (apply CallN.mk (cD)) | (apply CallN.mk (cF)) | (apply CallN.mk (cE)) | (apply CallN.mk (cLt)) | (with_reducible first | apply Bif.T | apply Bif.F) | ((with_reducible apply Bif.bne) <;> intro h <;> (try simp only [lns] at h) <;> (try (exfalso; omega))) | (with_reducible apply Bif.not) | (with_reducible apply Frz.l)) <;> conv => whnf) | fail)
        refine loop_keep ttok mixed (T0 := 1298153445232962276648615462567391) [] (ι := {k : Nat // k ≤ K.length ∧ ∀ j, j < k → keyF src dst f (gt K j) = false})
          (fun k => [(8, .pb 2 []), (13, .ov 10 3 0 K.length), (15, .pb 7 []), (16, int (k.1 : Int))]) (fun _ => [.cells (adrV src), .cells (adrV dst), .cells (frgV f), .arr none 10 (lst bufV K), .gone, .arr none 4 (lst frgV [f]), .arr (some 1) 4 [frgV f], .cells (.agg [adrV src, adrV dst, .v (.int .u16 f.tag), int f.size, .ov 4 6 0 1, int (min (now + 12) 1099511627776)])]) (fun k => K.length - k.1) ⟨0, by omega, none_lt⟩ ?_
        conv => whnf
        repeat' (first | ((apply Same.mk rfl); (conv => whnf)) | ((with_reducible apply Frz.l) <;> conv => whnf) | fail)
        rintro ⟨k, hk, hek⟩
        dsimp only
        conv => whnf
        by_cases hkl : k < K.length
        · have hkf : keyF src dst f (gt K k) = false := he k (by omega)
          have cSk := cSm (gt K k)
          simp only [hkf] at cSk
          repeat' (first | ((first | ((with_reducible apply Nm.mk); focus ((try simp only [lns]); exact rfl)) | ((with_reducible apply Wr.i64); focus omega) | ((with_reducible apply Need.mk); focus first | omega | (simp only [lns]; omega) | exact CleanP.nil rfl | kernel_rfl) | ((with_reducible apply Elem.lst); focus omega) | (apply CallN.mk (cSk _ _)) | (with_reducible first | apply Bif.T | apply Bif.F) | ((with_reducible apply Bif.dec) <;> intro h <;> (try simp only [lns] at h) <;> (try (exfalso; omega))) | (with_reducible apply Bif.not) | (with_reducible apply GiveN.lend) | (with_reducible apply Frz.l)) <;> conv => whnf) | fail)
          (refine ⟨⟨k + 1, by omega, step_lt hek hkf⟩, ?_⟩; (try dsimp only); conv => whnf); repeat' (first | with_reducible apply True.intro | ((apply Same.mk rfl); (conv => whnf)) | ((first | ((with_reducible apply Need.mk); focus omega) | (with_reducible apply Turn.l) | (with_reducible apply Frz.l)) <;> conv => whnf) | fail)
        · obtain rfl : k = K.length := by omega
          repeat' (first | ((apply Elem.mk _ (elem_snoc (by simp [lst]))); (conv => whnf)) | ((first | ((with_reducible apply Nm.mk); focus ((try simp only [lns]); exact rfl)) | ((with_reducible apply Need.mk); focus first | omega | (simp only [lns]; omega) | kernel_rfl | (unfold roomOK; simp only [lns]; omega)) | (with_reducible apply Bif.F) | ((with_reducible first | apply Bif.dec | apply Bif.beq) <;> intro h <;> (try simp only [lns] at h) <;> (try (exfalso; omega))) | (with_reducible apply Alt.l) | (with_reducible apply Frz.l)) <;> conv => whnf) | fail)
          repeat' (first | with_reducible apply True.intro | ((with_reducible apply Frz.mk 3); (conv => whnf)) | ((with_reducible apply Alt.r); (conv => whnf); (with_reducible apply Need.mk); (focus (refine And.intro ?_ ?_ <;> first | rfl | (simp [lst]; done) | (simp [lst]; omega))); (conv => whnf)) | ((first | ((with_reducible apply Nm.mk); focus ((try simp only [lns, e1, hB, hC, hT, List.take_nil]); exact rfl)) | ((with_reducible apply Wr.i64); focus omega) | ((with_reducible apply Need.mk); focus first | (simp only [lns, e1, hB, hC, hT, List.take_nil]; omega) | kernel_rfl) | (apply CallN.mk (cJ _)) | (with_reducible apply Bif.T) | (with_reducible apply Bif.not) | (with_reducible apply Same.rfl) | (apply Same.int; focus rfl) | (with_reducible apply Cut.l)) <;> conv => whnf) | fail)
  · have hany : K.any (keyF src dst f) = true := List.any_eq_true.2 ⟨_, gt_mem hi, hp⟩
    rw [hany, if_pos rfl, hx, Int.toNat_natCast]
    have hBv := hKv _ (gt_mem hi)
    obtain ⟨hpl, hpf⟩ := validB_parts hBv
    simp only [validB, Bool.and_eq_true] at hBv
    have hPo := hBv.2.2.2.2
    have hP := (partsOK_iff.1 hPo).1
    have hil : i < (lst bufV K).length := by simp [lst]; omega
    have hkey : (gt K i).src = src ∧ (gt K i).dst = dst ∧ (gt K i).tag = f.tag ∧ (gt K i).size = f.size := by simpa [keyF] using hp
    have hPf : Parts f.size f.tag 0 (gt K i).parts := by rw [← hkey.2.2.1, ← hkey.2.2.2]; exact hP
    have e1 : ((i : Int) + 1).toNat = i + 1 := by omega
    have hB : ∀ X : SV, List.take K.length ((lst bufV K).set i X) = (lst bufV K).set i X := fun X => List.take_of_length_le (by simp [lst])
    have hD : ∀ X : SV, List.take (K.length - (i + 1)) (List.drop (i + 1) ((lst bufV K).set i X)) = List.drop (i + 1) ((lst bufV K).set i X) := fun X => List.take_of_length_le (by simp [lst])
    have cSi := cSm (gt K i)
    simp only [hp] at cSi
    cases hsame : (gt K i).parts.any (eqP · f)
    · cases hclash : (gt K i).parts.any (ovl · f)
      · have hno : ∀ j, j < (gt K i).parts.length → ovl (gt (gt K i).parts j) f = false := fun j hj => by
          rw [List.any_eq_false] at hclash
          simpa using hclash _ (gt_mem hj)
        have hadd := addP_ins o4 hno
        have hw : withB (gt K i) f (freshB src dst f now) = ⟨(gt K i).src, (gt K i).dst, (gt K i).tag, (gt K i).size, insF f (gt K i).parts, (gt K i).upto⟩ := by rw [withB, hadd]
        have hpos := posF_le f (gt K i).parts
        have hinl : (insF f (gt K i).parts).length = (gt K i).parts.length + 1 := by simp [insF]; omega
        have hmem : ∀ x ∈ insF f (gt K i).parts, x.data.length ≤ 9223372036854775807 := fun x hx => by
          simp only [insF, List.mem_append, List.mem_singleton] at hx
          rcases hx with (hx | hx) | hx
          · have := (hpf x (List.mem_of_mem_take hx)).2; omega
          · rw [hx]; exact hd
          · have := (hpf x (List.mem_of_mem_drop hx)).2; omega
        have cW := k_withIns (gt K i) (freshB src dst f now) f hPf o4 hsame hclash
        have cJ := fun t => k_rJoin (insF f (gt K i).parts) t (by omega) hmem
        rw [hw, finB_eq (by rw [gt_set hi, if_pos rfl])]
        generalize insF f (gt K i).parts = ps at *
        have hpsl : List.take ps.length ps = ps := List.take_length
        cases hj : (joinR ps).2
        · simp only [hj] at cJ
          rw [if_neg (by simp)]
          refine Con.fin (rows := _) (n1 := K.length) (n2 := 0) ?_ ((RowW.allV K).set i (wk_bufV ⟨none, false⟩ ⟨(gt K i).src, (gt K i).dst, (gt K i).tag, (gt K i).size, ps, (gt K i).upto⟩)) (by simp) rfl
          refine spec_of_run ttok mixed (T0 := 1298153445232962276648615462567391) (ts := [.tmp 10, .tmp 11, .tmp 12]) 122 rfl rfl rfl rfl (by simp) rfl ?_
          conv => whnf
          repeat' (first | ((with_reducible apply GiveN.mk [0]); (conv => whnf); (apply CallN.mk cCp); (conv => whnf)) | ((first | ((with_reducible apply Nm.mk); focus ((try simp only [lns]); exact rfl)) | ((with_reducible apply Need.mk); focus first | (simp only [lns]; omega) | kernel_rfl) | ((with_reducible apply Elem.lst); focus (simp only [lns]; omega)) | (apply CallN.mk (cV)) | (apply CallN.mk (cS)) | (apply CallN.mk (cD)) | (apply CallN.mk (cF)) | (apply CallN.mk (cE)) | (apply CallN.mk (cLt)) | (with_reducible first | apply Bif.T | apply Bif.F) | ((with_reducible apply Bif.bne) <;> intro h <;> (try simp only [lns] at h) <;> (try (exfalso; omega))) | (with_reducible apply Bif.not) | (with_reducible apply Frz.l)) <;> conv => whnf) | fail)
          refine loop_keep ttok mixed (T0 := 1298153445232962276648615462567391) [] (ι := {k : Nat // k ≤ i ∧ ∀ j, j < k → keyF src dst f (gt K j) = false})
            (fun k => [(8, .pb 2 []), (13, .ov 10 3 0 K.length), (15, .pb 7 []), (16, int (k.1 : Int))]) (fun _ => [.cells (adrV src), .cells (adrV dst), .cells (frgV f), .arr none 10 (lst bufV K), .gone, .arr none 4 (lst frgV [f]), .arr (some 1) 4 [frgV f], .cells (.agg [adrV src, adrV dst, .v (.int .u16 f.tag), int f.size, .ov 4 6 0 1, int (min (now + 12) 1099511627776)])]) (fun k => i - k.1) ⟨0, by omega, none_lt⟩ ?_
          conv => whnf
          repeat' (first | ((apply Same.mk rfl); (conv => whnf)) | ((with_reducible apply Frz.l) <;> conv => whnf) | fail)
          rintro ⟨k, hk, hek⟩
          dsimp only
          conv => whnf
          by_cases hkl : k < i
          · have hkf : keyF src dst f (gt K k) = false := he k (by omega)
            have cSk := cSm (gt K k)
            simp only [hkf] at cSk
            repeat' (first | ((first | ((with_reducible apply Nm.mk); focus ((try simp only [lns]); exact rfl)) | ((with_reducible apply Wr.i64); focus omega) | ((with_reducible apply Need.mk); focus first | omega | (simp only [lns]; omega) | exact CleanP.nil rfl | kernel_rfl) | ((with_reducible apply Elem.lst); focus omega) | (apply CallN.mk (cSk _ _)) | (with_reducible first | apply Bif.T | apply Bif.F) | ((with_reducible apply Bif.dec) <;> intro h <;> (try simp only [lns] at h) <;> (try (exfalso; omega))) | (with_reducible apply Bif.not) | (with_reducible apply GiveN.lend) | (with_reducible apply Frz.l)) <;> conv => whnf) | fail)
            (refine ⟨⟨k + 1, by omega, step_lt hek hkf⟩, ?_⟩; (try dsimp only); conv => whnf); repeat' (first | with_reducible apply True.intro | ((apply Same.mk rfl); (conv => whnf)) | ((first | ((with_reducible apply Need.mk); focus omega) | (with_reducible apply Turn.l) | (with_reducible apply Frz.l)) <;> conv => whnf) | fail)
          · obtain rfl : k = i := by omega
            repeat' (first | with_reducible apply True.intro | ((with_reducible apply GiveN.mk [2]); (conv => whnf); (apply CallN.mk cW); (conv => whnf)) | ((apply Elem.mk _ (elem_set hil)); (conv => whnf)) | ((apply Same.mk rfl); (conv => whnf)) | ((first | ((with_reducible apply Nm.mk); focus ((try simp only [lns, hpsl]); exact rfl)) | ((with_reducible apply Need.mk); focus first | omega | (simp only [lns, hpsl]; omega) | exact CleanP.nil rfl | kernel_rfl) | ((with_reducible apply Elem.lst); focus omega) | (apply CallN.mk (cSi _ _)) | (apply CallN.mk (cJ _)) | (with_reducible first | apply Bif.T | apply Bif.F) | ((with_reducible apply Bif.dec) <;> intro h <;> (try simp only [lns, hpsl] at h) <;> (try (exfalso; omega))) | (with_reducible apply Bif.not) | (with_reducible first | apply Cut.l | apply GiveN.lend) | (with_reducible apply Frz.l)) <;> conv => whnf) | fail)
        · simp only [hj] at cJ
          rw [if_pos rfl]
          by_cases hlast : i + 1 = K.length
          · have hC : ∀ X : SV, List.drop (i + 1) ((lst bufV K).set i X) = [] := fun X => List.drop_of_length_le (by simp [lst]; omega)
            have hrw2 := ((RowW.allV K).set i (wk_bufV ⟨none, false⟩ ⟨(gt K i).src, (gt K i).dst, (gt K i).tag, (gt K i).size, ps, (gt K i).upto⟩)).del i
            rw [hC, List.append_nil] at hrw2
            refine Con.finS (rows := _) (t := tgC i) (n2 := (joinR ps).1.length) ?_ hrw2 rfl
            refine spec_of_run ttok mixed (T0 := 1298153445232962276648615462567391) (ts := [.tmp 10, .tmp 11, .tmp 12]) 122 rfl rfl rfl rfl (by simp) rfl ?_
            conv => whnf
            repeat' (first | ((with_reducible apply GiveN.mk [0]); (conv => whnf); (apply CallN.mk cCp); (conv => whnf)) | ((first | ((with_reducible apply Nm.mk); focus ((try simp only [lns]); exact rfl)) | ((with_reducible apply Need.mk); focus first | (simp only [lns]; omega) | kernel_rfl) | ((with_reducible apply Elem.lst); focus (simp only [lns]; omega)) | (apply CallN.mk (cV)) | (apply CallN.mk (cS)) | (apply CallN.mk (cD)) | (apply CallN.mk (cF)) | (apply CallN.mk (cE)) | (apply CallN.mk (cLt)) | (with_reducible first | apply Bif.T | apply Bif.F) | ((with_reducible apply Bif.bne) <;> intro h <;> (try simp only [lns] at h) <;> (try (exfalso; omega))) | (with_reducible apply Bif.not) | (with_reducible apply Frz.l)) <;> conv => whnf) | fail)
            refine loop_keep ttok mixed (T0 := 1298153445232962276648615462567391) [] (ι := {k : Nat // k ≤ i ∧ ∀ j, j < k → keyF src dst f (gt K j) = false})
              (fun k => [(8, .pb 2 []), (13, .ov 10 3 0 K.length), (15, .pb 7 []), (16, int (k.1 : Int))]) (fun _ => [.cells (adrV src), .cells (adrV dst), .cells (frgV f), .arr none 10 (lst bufV K), .gone, .arr none 4 (lst frgV [f]), .arr (some 1) 4 [frgV f], .cells (.agg [adrV src, adrV dst, .v (.int .u16 f.tag), int f.size, .ov 4 6 0 1, int (min (now + 12) 1099511627776)])]) (fun k => i - k.1) ⟨0, by omega, none_lt⟩ ?_
            conv => whnf
            repeat' (first | ((apply Same.mk rfl); (conv => whnf)) | ((with_reducible apply Frz.l) <;> conv => whnf) | fail)
            rintro ⟨k, hk, hek⟩
            dsimp only
            conv => whnf
            by_cases hkl : k < i
            · have hkf : keyF src dst f (gt K k) = false := he k (by omega)
              have cSk := cSm (gt K k)
              simp only [hkf] at cSk
              repeat' (first | ((first | ((with_reducible apply Nm.mk); focus ((try simp only [lns]); exact rfl)) | ((with_reducible apply Wr.i64); focus omega) | ((with_reducible apply Need.mk); focus first | omega | (simp only [lns]; omega) | exact CleanP.nil rfl | kernel_rfl) | ((with_reducible apply Elem.lst); focus omega) | (apply CallN.mk (cSk _ _)) | (with_reducible first | apply Bif.T | apply Bif.F) | ((with_reducible apply Bif.dec) <;> intro h <;> (try simp only [lns] at h) <;> (try (exfalso; omega))) | (with_reducible apply Bif.not) | (with_reducible apply GiveN.lend) | (with_reducible apply Frz.l)) <;> conv => whnf) | fail)
              (refine ⟨⟨k + 1, by omega, step_lt hek hkf⟩, ?_⟩; (try dsimp only); conv => whnf); repeat' (first | with_reducible apply True.intro | ((apply Same.mk rfl); (conv => whnf)) | ((first | ((with_reducible apply Need.mk); focus omega) | (with_reducible apply Turn.l) | (with_reducible apply Frz.l)) <;> conv => whnf) | fail)
            · obtain rfl : k = i := by omega
              repeat' (first | ((with_reducible apply GiveN.mk [2]); (conv => whnf); (apply CallN.mk cW); (conv => whnf)) | ((apply Elem.mk _ (elem_set hil)); (conv => whnf)) | ((first | ((with_reducible apply Nm.mk); focus ((try simp only [lns, hpsl]); exact rfl)) | ((with_reducible apply Need.mk); focus first | omega | (simp only [lns, hpsl]; omega) | exact CleanP.nil rfl | kernel_rfl) | ((with_reducible apply Elem.lst); focus omega) | (apply CallN.mk (cSi _ _)) | (with_reducible apply Bif.T) | ((with_reducible apply Bif.dec) <;> intro h <;> (try simp only [lns, hpsl] at h) <;> (try (exfalso; omega))) | (with_reducible apply Bif.not) | (with_reducible apply GiveN.lend) | (with_reducible apply Frz.l)) <;> conv => whnf) | fail)
              repeat' (first | with_reducible apply True.intro | ((with_reducible apply Frz.mk 3); (conv => whnf)) | ((with_reducible apply Alt.r); (conv => whnf); (with_reducible apply Need.mk); (focus (refine And.intro ?_ ?_ <;> first | rfl | (simp [lst]; done) | (simp [lst]; omega))); (conv => whnf)) | ((first | ((with_reducible apply Nm.mk); focus ((try simp only [lns, e1, hB, hC, List.take_nil, hpsl]); exact rfl)) | ((with_reducible apply Wr.i64); focus omega) | ((with_reducible apply Need.mk); focus first | (simp only [lns, e1, hB, hC, List.take_nil, hpsl]; omega) | kernel_rfl) | (apply CallN.mk (cJ _)) | (with_reducible apply Bif.T) | (with_reducible apply Bif.not) | (with_reducible apply Same.rfl) | (apply Same.int; focus rfl) | (apply Same.rfl) | (with_reducible apply Cut.l)) <;> conv => whnf) | fail)
          · refine Con.fin (rows := _) (n1 := K.length - 1) (n2 := (joinR ps).1.length) ?_ (((RowW.allV K).set i (wk_bufV ⟨none, false⟩ ⟨(gt K i).src, (gt K i).dst, (gt K i).tag, (gt K i).size, ps, (gt K i).upto⟩)).del i) (by rw [List.length_eraseIdx]; simp [hi]) rfl
            refine spec_of_run ttok mixed (T0 := 1298153445232962276648615462567391) (ts := [.tmp 10, .tmp 11, .tmp 12]) 122 rfl rfl rfl rfl (by simp) rfl ?_
            conv => whnf
            repeat' (first | ((with_reducible apply GiveN.mk [0]); (conv => whnf); (apply CallN.mk cCp); (conv => whnf)) | ((first | ((with_reducible apply Nm.mk); focus ((try simp only [lns]); exact rfl)) | ((with_reducible apply Need.mk); focus first | (simp only [lns]; omega) | kernel_rfl) | ((with_reducible apply Elem.lst); focus (simp only [lns]; omega)) | (apply CallN.mk (cV)) | (apply CallN.mk (cS)) | (apply CallN.mk (cD)) | (apply CallN.mk (cF)) | (apply CallN.mk (cE)) | (apply CallN.mk (cLt)) | (with_reducible first | apply Bif.T | apply Bif.F) | ((with_reducible apply Bif.bne) <;> intro h <;> (try simp only [lns] at h) <;> (try (exfalso; omega))) | (with_reducible apply Bif.not) | (with_reducible apply Frz.l)) <;> conv => whnf) | fail)
            refine loop_keep ttok mixed (T0 := 1298153445232962276648615462567391) [] (ι := {k : Nat // k ≤ i ∧ ∀ j, j < k → keyF src dst f (gt K j) = false})
              (fun k => [(8, .pb 2 []), (13, .ov 10 3 0 K.length), (15, .pb 7 []), (16, int (k.1 : Int))]) (fun _ => [.cells (adrV src), .cells (adrV dst), .cells (frgV f), .arr none 10 (lst bufV K), .gone, .arr none 4 (lst frgV [f]), .arr (some 1) 4 [frgV f], .cells (.agg [adrV src, adrV dst, .v (.int .u16 f.tag), int f.size, .ov 4 6 0 1, int (min (now + 12) 1099511627776)])]) (fun k => i - k.1) ⟨0, by omega, none_lt⟩ ?_
            conv => whnf
            repeat' (first | ((apply Same.mk rfl); (conv => whnf)) | ((with_reducible apply Frz.l) <;> conv => whnf) | fail)
            rintro ⟨k, hk, hek⟩
            dsimp only
            conv => whnf
            by_cases hkl : k < i
            · have hkf : keyF src dst f (gt K k) = false := he k (by omega)
              have cSk := cSm (gt K k)
              simp only [hkf] at cSk
              repeat' (first | ((first | ((with_reducible apply Nm.mk); focus ((try simp only [lns]); exact rfl)) | ((with_reducible apply Wr.i64); focus omega) | ((with_reducible apply Need.mk); focus first | omega | (simp only [lns]; omega) | exact CleanP.nil rfl | kernel_rfl) | ((with_reducible apply Elem.lst); focus omega) | (apply CallN.mk (cSk _ _)) | (with_reducible first | apply Bif.T | apply Bif.F) | ((with_reducible apply Bif.dec) <;> intro h <;> (try simp only [lns] at h) <;> (try (exfalso; omega))) | (with_reducible apply Bif.not) | (with_reducible apply GiveN.lend) | (with_reducible apply Frz.l)) <;> conv => whnf) | fail)
              (refine ⟨⟨k + 1, by omega, step_lt hek hkf⟩, ?_⟩; (try dsimp only); conv => whnf); repeat' (first | with_reducible apply True.intro | ((apply Same.mk rfl); (conv => whnf)) | ((first | ((with_reducible apply Need.mk); focus omega) | (with_reducible apply Turn.l) | (with_reducible apply Frz.l)) <;> conv => whnf) | fail)
            · obtain rfl : k = i := by omega
              repeat' (first | ((with_reducible apply GiveN.mk [2]); (conv => whnf); (apply CallN.mk cW); (conv => whnf)) | ((apply Elem.mk _ (elem_set hil)); (conv => whnf)) | ((first | ((with_reducible apply Nm.mk); focus ((try simp only [lns, hpsl]); exact rfl)) | ((with_reducible apply Need.mk); focus first | omega | (simp only [lns, hpsl]; omega) | exact CleanP.nil rfl | kernel_rfl) | ((with_reducible apply Elem.lst); focus omega) | (apply CallN.mk (cSi _ _)) | (with_reducible apply Bif.T) | ((with_reducible apply Bif.dec) <;> intro h <;> (try simp only [lns, hpsl] at h) <;> (try (exfalso; omega))) | (with_reducible apply Bif.not) | (with_reducible apply GiveN.lend) | (with_reducible apply Frz.l)) <;> conv => whnf) | fail)
              repeat' (first | with_reducible apply True.intro | ((with_reducible apply Frz.mk 3); (conv => whnf)) | ((first | ((with_reducible apply Nm.mk); focus ((try simp only [lns, e1, hB, hD, hpsl]); exact rfl)) | ((with_reducible apply Wr.i64); focus omega) | ((with_reducible apply Need.mk); focus first | (simp only [lns, e1, hB, hD, hpsl]; omega) | kernel_rfl | (unfold roomOK; simp only [lns, e1, hB, hD, hpsl]; omega)) | (apply CallN.mk (cJ _)) | (with_reducible apply Bif.T) | (with_reducible apply Bif.not) | (with_reducible apply Same.rfl) | (apply Same.int; focus rfl) | ((with_reducible apply Same.mk); focus omega) | (apply Same.rfl) | (with_reducible first | apply Alt.l | apply Cut.l)) <;> conv => whnf) | fail)
      · have hcl : addP (gt K i).parts f = none := by rw [addP, hsame, if_neg (by simp), hclash, if_pos rfl]
        have hw : withB (gt K i) f (freshB src dst f now) = freshB src dst f now := by rw [withB, hcl]
        have cW := k_withClash (gt K i) (freshB src dst f now) f hPf o4 hsame hclash
        have cJ := fun t => k_rJoin [f] t (by simp) (by simpa using hd)
        rw [hw, finB_eq (ps := [f]) (by rw [gt_set hi, if_pos rfl]; rfl)]
        cases hj : (joinR [f]).2
        · simp only [hj] at cJ
          rw [if_neg (by simp)]
          refine Con.fin (rows := _) (n1 := K.length) (n2 := 0) ?_ ((RowW.allV K).set i (wk_bufV (tgC 1) (freshB src dst f now))) (by simp) rfl
          refine spec_of_run ttok mixed (T0 := 1298153445232962276648615462567391) (ts := [.tmp 10, .tmp 11, .tmp 12]) 122 rfl rfl rfl rfl (by simp) rfl ?_
          conv => whnf
          repeat' (first | ((with_reducible apply GiveN.mk [0]); (conv => whnf); (apply CallN.mk cCp); (conv => whnf)) | ((first | ((with_reducible apply Nm.mk); focus ((try simp only [lns]); exact rfl)) | ((with_reducible apply Need.mk); focus first | (simp only [lns]; omega) | kernel_rfl) | ((with_reducible apply Elem.lst); focus (simp only [lns]; omega)) | (apply CallN.mk (cV)) | (apply CallN.mk (cS)) | (apply CallN.mk (cD)) | (apply CallN.mk (cF)) | (apply CallN.mk (cE)) | (apply CallN.mk (cLt)) | (with_reducible first | apply Bif.T | apply Bif.F) | ((with_reducible apply Bif.bne) <;> intro h <;> (try simp only [lns] at h) <;> (try (exfalso; omega))) | (with_reducible apply Bif.not) | (with_reducible apply Frz.l)) <;> conv => whnf) | fail)
          refine loop_keep ttok mixed (T0 := 1298153445232962276648615462567391) [] (ι := {k : Nat // k ≤ i ∧ ∀ j, j < k → keyF src dst f (gt K j) = false})
            (fun k => [(8, .pb 2 []), (13, .ov 10 3 0 K.length), (15, .pb 7 []), (16, int (k.1 : Int))]) (fun _ => [.cells (adrV src), .cells (adrV dst), .cells (frgV f), .arr none 10 (lst bufV K), .gone, .arr none 4 (lst frgV [f]), .arr (some 1) 4 [frgV f], .cells (.agg [adrV src, adrV dst, .v (.int .u16 f.tag), int f.size, .ov 4 6 0 1, int (min (now + 12) 1099511627776)])]) (fun k => i - k.1) ⟨0, by omega, none_lt⟩ ?_
          conv => whnf
          repeat' (first | ((apply Same.mk rfl); (conv => whnf)) | ((with_reducible apply Frz.l) <;> conv => whnf) | fail)
          rintro ⟨k, hk, hek⟩
          dsimp only
          conv => whnf
          by_cases hkl : k < i
          · have hkf : keyF src dst f (gt K k) = false := he k (by omega)
            have cSk := cSm (gt K k)
            simp only [hkf] at cSk
            repeat' (first | ((first | ((with_reducible apply Nm.mk); focus ((try simp only [lns]); exact rfl)) | ((with_reducible apply Wr.i64); focus omega) | ((with_reducible apply Need.mk); focus first | omega | (simp only [lns]; omega) | exact CleanP.nil rfl | kernel_rfl) | ((with_reducible apply Elem.lst); focus omega) | (apply CallN.mk (cSk _ _)) | (with_reducible first | apply Bif.T | apply Bif.F) | ((with_reducible apply Bif.dec) <;> intro h <;> (try simp only [lns] at h) <;> (try (exfalso; omega))) | (with_reducible apply Bif.not) | (with_reducible apply GiveN.lend) | (with_reducible apply Frz.l)) <;> conv => whnf) | fail)
            (refine ⟨⟨k + 1, by omega, step_lt hek hkf⟩, ?_⟩; (try dsimp only); conv => whnf); repeat' (first | with_reducible apply True.intro | ((apply Same.mk rfl); (conv => whnf)) | ((first | ((with_reducible apply Need.mk); focus omega) | (with_reducible apply Turn.l) | (with_reducible apply Frz.l)) <;> conv => whnf) | fail)
          · obtain rfl : k = i := by omega
            repeat' (first | with_reducible apply True.intro | ((with_reducible apply GiveN.mk [2]); (conv => whnf); (apply CallN.mk cW); (conv => whnf)) | ((apply Elem.mk _ (elem_set hil)); (conv => whnf)) | ((apply Same.mk rfl); (conv => whnf)) | ((first | ((with_reducible apply Nm.mk); focus ((try simp only [lns]); exact rfl)) | ((with_reducible apply Need.mk); focus first | omega | (simp only [lns]; omega) | exact CleanP.nil rfl | kernel_rfl) | ((with_reducible apply Elem.lst); focus omega) | (apply CallN.mk (cSi _ _)) | (apply CallN.mk (cJ _)) | (with_reducible first | apply Bif.T | apply Bif.F) | ((with_reducible apply Bif.dec) <;> intro h <;> (try simp only [lns] at h) <;> (try (exfalso; omega))) | (with_reducible apply Bif.not) | (with_reducible first | apply Cut.l | apply GiveN.lend) | (with_reducible apply Frz.l)) <;> conv => whnf) | fail)
        · simp only [hj] at cJ
          rw [if_pos rfl]
          by_cases hlast : i + 1 = K.length
          · have hC : ∀ X : SV, List.drop (i + 1) ((lst bufV K).set i X) = [] := fun X => List.drop_of_length_le (by simp [lst]; omega)
            have hrw2 := ((RowW.allV K).set i (wk_bufV (tgC 1) (freshB src dst f now))).del i
            rw [hC, List.append_nil] at hrw2
            refine Con.finS (rows := _) (t := tgC i) (n2 := (joinR [f]).1.length) ?_ hrw2 rfl
            refine spec_of_run ttok mixed (T0 := 1298153445232962276648615462567391) (ts := [.tmp 10, .tmp 11, .tmp 12]) 122 rfl rfl rfl rfl (by simp) rfl ?_
            conv => whnf
            repeat' (first | ((with_reducible apply GiveN.mk [0]); (conv => whnf); (apply CallN.mk cCp); (conv => whnf)) | ((first | ((with_reducible apply Nm.mk); focus ((try simp only [lns]); exact rfl)) | ((with_reducible apply Need.mk); focus first | (simp only [lns]; omega) | kernel_rfl) | ((with_reducible apply Elem.lst); focus (simp only [lns]; omega)) | (apply CallN.mk (cV)) | (apply CallN.mk (cS)) | (apply CallN.mk (cD)) | (apply CallN.mk (cF)) | (apply CallN.mk (cE)) | (apply CallN.mk (cLt)) | (with_reducible first | apply Bif.T | apply Bif.F) | ((with_reducible apply Bif.bne) <;> intro h <;> (try simp only [lns] at h) <;> (try (exfalso; omega))) | (with_reducible apply Bif.not) | (with_reducible apply Frz.l)) <;> conv => whnf) | fail)
            refine loop_keep ttok mixed (T0 := 1298153445232962276648615462567391) [] (ι := {k : Nat // k ≤ i ∧ ∀ j, j < k → keyF src dst f (gt K j) = false})
              (fun k => [(8, .pb 2 []), (13, .ov 10 3 0 K.length), (15, .pb 7 []), (16, int (k.1 : Int))]) (fun _ => [.cells (adrV src), .cells (adrV dst), .cells (frgV f), .arr none 10 (lst bufV K), .gone, .arr none 4 (lst frgV [f]), .arr (some 1) 4 [frgV f], .cells (.agg [adrV src, adrV dst, .v (.int .u16 f.tag), int f.size, .ov 4 6 0 1, int (min (now + 12) 1099511627776)])]) (fun k => i - k.1) ⟨0, by omega, none_lt⟩ ?_
            conv => whnf
            repeat' (first | ((apply Same.mk rfl); (conv => whnf)) | ((with_reducible apply Frz.l) <;> conv => whnf) | fail)
            rintro ⟨k, hk, hek⟩
            dsimp only
            conv => whnf
            by_cases hkl : k < i
            · have hkf : keyF src dst f (gt K k) = false := he k (by omega)
              have cSk := cSm (gt K k)
              simp only [hkf] at cSk
              repeat' (first | ((first | ((with_reducible apply Nm.mk); focus ((try simp only [lns]); exact rfl)) | ((with_reducible apply Wr.i64); focus omega) | ((with_reducible apply Need.mk); focus first | omega | (simp only [lns]; omega) | exact CleanP.nil rfl | kernel_rfl) | ((with_reducible apply Elem.lst); focus omega) | (apply CallN.mk (cSk _ _)) | (with_reducible first | apply Bif.T | apply Bif.F) | ((with_reducible apply Bif.dec) <;> intro h <;> (try simp only [lns] at h) <;> (try (exfalso; omega))) | (with_reducible apply Bif.not) | (with_reducible apply GiveN.lend) | (with_reducible apply Frz.l)) <;> conv => whnf) | fail)
              (refine ⟨⟨k + 1, by omega, step_lt hek hkf⟩, ?_⟩; (try dsimp only); conv => whnf); repeat' (first | with_reducible apply True.intro | ((apply Same.mk rfl); (conv => whnf)) | ((first | ((with_reducible apply Need.mk); focus omega) | (with_reducible apply Turn.l) | (with_reducible apply Frz.l)) <;> conv => whnf) | fail)
            · obtain rfl : k = i := by omega
              repeat' (first | ((with_reducible apply GiveN.mk [2]); (conv => whnf); (apply CallN.mk cW); (conv => whnf)) | ((apply Elem.mk _ (elem_set hil)); (conv => whnf)) | ((first | ((with_reducible apply Nm.mk); focus ((try simp only [lns]); exact rfl)) | ((with_reducible apply Need.mk); focus first | omega | (simp only [lns]; omega) | exact CleanP.nil rfl | kernel_rfl) | ((with_reducible apply Elem.lst); focus omega) | (apply CallN.mk (cSi _ _)) | (with_reducible apply Bif.T) | ((with_reducible apply Bif.dec) <;> intro h <;> (try simp only [lns] at h) <;> (try (exfalso; omega))) | (with_reducible apply Bif.not) | (with_reducible apply GiveN.lend) | (with_reducible apply Frz.l)) <;> conv => whnf) | fail)
              repeat' (first | with_reducible apply True.intro | ((with_reducible apply Frz.mk 3); (conv => whnf)) | ((with_reducible apply Alt.r); (conv => whnf); (with_reducible apply Need.mk); (focus (refine And.intro ?_ ?_ <;> first | rfl | (simp [lst]; done) | (simp [lst]; omega))); (conv => whnf)) | ((first | ((with_reducible apply Nm.mk); focus ((try simp only [lns, e1, hB, hC, List.take_nil]); exact rfl)) | ((with_reducible apply Wr.i64); focus omega) | ((with_reducible apply Need.mk); focus first | (simp only [lns, e1, hB, hC, List.take_nil]; omega) | kernel_rfl) | (apply CallN.mk (cJ _)) | (with_reducible apply Bif.T) | (with_reducible apply Bif.not) | (with_reducible apply Same.rfl) | (apply Same.int; focus rfl) | (apply Same.rfl) | (with_reducible apply Cut.l)) <;> conv => whnf) | fail)
          · refine Con.fin (rows := _) (n1 := K.length - 1) (n2 := (joinR [f]).1.length) ?_ (((RowW.allV K).set i (wk_bufV (tgC 1) (freshB src dst f now))).del i) (by rw [List.length_eraseIdx]; simp [hi]) rfl
            refine spec_of_run ttok mixed (T0 := 1298153445232962276648615462567391) (ts := [.tmp 10, .tmp 11, .tmp 12]) 122 rfl rfl rfl rfl (by simp) rfl ?_
            conv => whnf
            repeat' (first | ((with_reducible apply GiveN.mk [0]); (conv => whnf); (apply CallN.mk cCp); (conv => whnf)) | ((first | ((with_reducible apply Nm.mk); focus ((try simp only [lns]); exact rfl)) | ((with_reducible apply Need.mk); focus first | (simp only [lns]; omega) | kernel_rfl) | ((with_reducible apply Elem.lst); focus (simp only [lns]; omega)) | (apply CallN.mk (cV)) | (apply CallN.mk (cS)) | (apply CallN.mk (cD)) | (apply CallN.mk (cF)) | (apply CallN.mk (cE)) | (apply CallN.mk (cLt)) | (with_reducible first | apply Bif.T | apply Bif.F) | ((with_reducible apply Bif.bne) <;> intro h <;> (try simp only [lns] at h) <;> (try (exfalso; omega))) | (with_reducible apply Bif.not) | (with_reducible apply Frz.l)) <;> conv => whnf) | fail)
            refine loop_keep ttok mixed (T0 := 1298153445232962276648615462567391) [] (ι := {k : Nat // k ≤ i ∧ ∀ j, j < k → keyF src dst f (gt K j) = false})
              (fun k => [(8, .pb 2 []), (13, .ov 10 3 0 K.length), (15, .pb 7 []), (16, int (k.1 : Int))]) (fun _ => [.cells (adrV src), .cells (adrV dst), .cells (frgV f), .arr none 10 (lst bufV K), .gone, .arr none 4 (lst frgV [f]), .arr (some 1) 4 [frgV f], .cells (.agg [adrV src, adrV dst, .v (.int .u16 f.tag), int f.size, .ov 4 6 0 1, int (min (now + 12) 1099511627776)])]) (fun k => i - k.1) ⟨0, by omega, none_lt⟩ ?_
            conv => whnf
            repeat' (first | ((apply Same.mk rfl); (conv => whnf)) | ((with_reducible apply Frz.l) <;> conv => whnf) | fail)
            rintro ⟨k, hk, hek⟩
            dsimp only
            conv => whnf
            by_cases hkl : k < i
            · have hkf : keyF src dst f (gt K k) = false := he k (by omega)
              have cSk := cSm (gt K k)
              simp only [hkf] at cSk
              repeat' (first | ((first | ((with_reducible apply Nm.mk); focus ((try simp only [lns]); exact rfl)) | ((with_reducible apply Wr.i64); focus omega) | ((with_reducible apply Need.mk); focus first | omega | (simp only [lns]; omega) | exact CleanP.nil rfl | kernel_rfl) | ((with_reducible apply Elem.lst); focus omega) | (apply CallN.mk (cSk _ _)) | (with_reducible first | apply Bif.T | apply Bif.F) | ((with_reducible apply Bif.dec) <;> intro h <;> (try simp only [lns] at h) <;> (try (exfalso; omega))) | (with_reducible apply Bif.not) | (with_reducible apply GiveN.lend) | (with_reducible apply Frz.l)) <;> conv => whnf) | fail)
              (refine ⟨⟨k + 1, by omega, step_lt hek hkf⟩, ?_⟩; (try dsimp only); conv => whnf); repeat' (first | with_reducible apply True.intro | ((apply Same.mk rfl); (conv => whnf)) | ((first | ((with_reducible apply Need.mk); focus omega) | (with_reducible apply Turn.l) | (with_reducible apply Frz.l)) <;> conv => whnf) | fail)
            · obtain rfl : k = i := by omega
              repeat' (first | ((with_reducible apply GiveN.mk [2]); (conv => whnf); (apply CallN.mk cW); (conv => whnf)) | ((apply Elem.mk _ (elem_set hil)); (conv => whnf)) | ((first | ((with_reducible apply Nm.mk); focus ((try simp only [lns]); exact rfl)) | ((with_reducible apply Need.mk); focus first | omega | (simp only [lns]; omega) | exact CleanP.nil rfl | kernel_rfl) | ((with_reducible apply Elem.lst); focus omega) | (apply CallN.mk (cSi _ _)) | (with_reducible apply Bif.T) | ((with_reducible apply Bif.dec) <;> intro h <;> (try simp only [lns] at h) <;> (try (exfalso; omega))) | (with_reducible apply Bif.not) | (with_reducible apply GiveN.lend) | (with_reducible apply Frz.l)) <;> conv => whnf) | fail)
              repeat' (first | with_reducible apply True.intro | ((with_reducible apply Frz.mk 3); (conv => whnf)) | ((first | ((with_reducible apply Nm.mk); focus ((try simp only [lns, e1, hB, hD]); exact rfl)) | ((with_reducible apply Wr.i64); focus omega) | ((with_reducible apply Need.mk); focus first | (simp only [lns, e1, hB, hD]; omega) | kernel_rfl | (unfold roomOK; simp only [lns, e1, hB, hD]; omega)) | (apply CallN.mk (cJ _)) | (with_reducible apply Bif.T) | (with_reducible apply Bif.not) | (with_reducible apply Same.rfl) | (apply Same.int; focus rfl) | ((with_reducible apply Same.mk); focus omega) | (apply Same.rfl) | (with_reducible first | apply Alt.l | apply Cut.l)) <;> conv => whnf) | fail)
    · have hw : withB (gt K i) f (freshB src dst f now) = gt K i := by rw [withB, addP, if_pos hsame]
      have hset : K.set i (gt K i) = K := by rw [gt_eq hi]; exact List.set_getElem_self hi
      rw [hw, hset, finB_eq rfl]
      have hj : (joinR (gt K i).parts).2 = false := by rw [joinR_isNone, joinF_none hPo]; rfl
      rw [hj, if_neg (by simp)]
      have cW := k_withSame (gt K i) (freshB src dst f now) f hPf o4 hsame
      have cJ := fun t => k_rJoin (gt K i).parts t (by omega) (fun x hx => by have := (hpf x hx).2; omega)
      simp only [hj] at cJ
      have hrw := (RowW.allV K).set i (s := bufV (gt K i)) (b := gt K i) .rfl
      rw [hset] at hrw
      refine Con.fin (rows := _) (n1 := K.length) (n2 := 0) ?_ hrw rfl rfl
      refine spec_of_run ttok mixed (T0 := 1298153445232962276648615462567391) (ts := [.tmp 10, .tmp 11, .tmp 12]) 122 rfl rfl rfl rfl (by simp) rfl ?_
      conv => whnf
      repeat' (first | ((with_reducible apply GiveN.mk [0]); (conv => whnf); (apply CallN.mk cCp); (conv => whnf)) | ((first | ((with_reducible apply Nm.mk); focus ((try simp only [lns]); exact rfl)) | ((with_reducible apply Need.mk); focus first | (simp only [lns]; omega) | kernel_rfl) | ((with_reducible apply Elem.lst); focus (simp only [lns]; omega)) | (apply CallN.mk (cV)) | (apply CallN.mk (cS)) | (apply CallN.mk (cD)) | (apply CallN.mk (cF)) | (apply CallN.mk (cE)) | (apply CallN.mk (cLt)) | (with_reducible first | apply Bif.T | apply Bif.F) | ((with_reducible apply Bif.bne) <;> intro h <;> (try simp only [lns] at h) <;> (try (exfalso; omega))) | (with_reducible apply Bif.not) | (with_reducible apply Frz.l)) <;> conv => whnf) | fail)
      refine loop_keep ttok mixed (T0 := 1298153445232962276648615462567391) [] (ι := {k : Nat // k ≤ i ∧ ∀ j, j < k → keyF src dst f (gt K j) = false})
        (fun k => [(8, .pb 2 []), (13, .ov 10 3 0 K.length), (15, .pb 7 []), (16, int (k.1 : Int))]) (fun _ => [.cells (adrV src), .cells (adrV dst), .cells (frgV f), .arr none 10 (lst bufV K), .gone, .arr none 4 (lst frgV [f]), .arr (some 1) 4 [frgV f], .cells (.agg [adrV src, adrV dst, .v (.int .u16 f.tag), int f.size, .ov 4 6 0 1, int (min (now + 12) 1099511627776)])]) (fun k => i - k.1) ⟨0, by omega, none_lt⟩ ?_
      conv => whnf
      repeat' (first | ((apply Same.mk rfl); (conv => whnf)) | ((with_reducible apply Frz.l) <;> conv => whnf) | fail)
      rintro ⟨k, hk, hek⟩
      dsimp only
      conv => whnf
      by_cases hkl : k < i
      · have hkf : keyF src dst f (gt K k) = false := he k (by omega)
        have cSk := cSm (gt K k)
        simp only [hkf] at cSk
        repeat' (first | ((first | ((with_reducible apply Nm.mk); focus ((try simp only [lns]); exact rfl)) | ((with_reducible apply Wr.i64); focus omega) | ((with_reducible apply Need.mk); focus first | omega | (simp only [lns]; omega) | exact CleanP.nil rfl | kernel_rfl) | ((with_reducible apply Elem.lst); focus omega) | (apply CallN.mk (cSk _ _)) | (with_reducible first | apply Bif.T | apply Bif.F) | ((with_reducible apply Bif.dec) <;> intro h <;> (try simp only [lns] at h) <;> (try (exfalso; omega))) | (with_reducible apply Bif.not) | (with_reducible apply GiveN.lend) | (with_reducible apply Frz.l)) <;> conv => whnf) | fail)
        (refine ⟨⟨k + 1, by omega, step_lt hek hkf⟩, ?_⟩; (try dsimp only); conv => whnf); repeat' (first | with_reducible apply True.intro | ((apply Same.mk rfl); (conv => whnf)) | ((first | ((with_reducible apply Need.mk); focus omega) | (with_reducible apply Turn.l) | (with_reducible apply Frz.l)) <;> conv => whnf) | fail)
      · obtain rfl : k = i := by omega
        repeat' (first | with_reducible apply True.intro | ((with_reducible apply GiveN.mk [2]); (conv => whnf); (apply CallN.mk cW); (conv => whnf)) | ((apply Elem.mk _ (elem_set hil)); (conv => whnf)) | ((apply Same.mk rfl); (conv => whnf)) | ((first | ((with_reducible apply Nm.mk); focus ((try simp only [lns]); exact rfl)) | ((with_reducible apply Need.mk); focus first | omega | (simp only [lns]; omega) | exact CleanP.nil rfl | kernel_rfl) | ((with_reducible apply Elem.lst); focus omega) | (apply CallN.mk (cSi _ _)) | (apply CallN.mk (cJ _)) | (with_reducible first | apply Bif.T | apply Bif.F) | ((with_reducible apply Bif.dec) <;> intro h <;> (try simp only [lns] at h) <;> (try (exfalso; omega))) | (with_reducible apply Bif.not) | (with_reducible first | apply Cut.l | apply GiveN.lend) | (with_reducible apply Frz.l)) <;> conv => whnf) | fail)
end Go.Fw
