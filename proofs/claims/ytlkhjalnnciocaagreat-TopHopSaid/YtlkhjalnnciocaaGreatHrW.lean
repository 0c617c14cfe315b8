/- The program's Add: the walk. -/
import Derived.Test.YtlkhjalnnciocaaGreatHrI

namespace Go.Fw
open Go.Proofs
set_option maxHeartbeats 8000000
set_option maxRecDepth 4000
theorem joinR_isNone {l : List Frg} : (joinR l).2 = !(joinF l).isNone := by
  unfold joinR
  cases joinF l <;> rfl
theorem addM_bad {l : List Buf} {src dst : Adr} {f : Frg} {now : Int} (h : ¬ (validL l = true ∧ someA src = true ∧ someA dst = true ∧ okF f = true)) : addM l src dst f now = ([], [], 1) := by rw [addM, if_neg h]
theorem addM_time {l : List Buf} {src dst : Adr} {f : Frg} {now : Int} (h : validL l = true ∧ someA src = true ∧ someA dst = true ∧ okF f = true) (hn : ¬ isTm now) : addM l src dst f now = ([], [], 2) := by rw [addM, if_pos h, if_neg hn]
theorem addM_ok {l : List Buf} {src dst : Adr} {f : Frg} {now : Int} (h : validL l = true ∧ someA src = true ∧ someA dst = true ∧ okF f = true) (hn : isTm now) :
    addM l src dst f now = if (expB l now).any (keyF src dst f) = true then finB ((expB l now).set (idxF (keyF src dst f) (expB l now)).toNat (withB (gt (expB l now) (idxF (keyF src dst f) (expB l now)).toNat) f (freshB src dst f now))) (idxF (keyF src dst f) (expB l now)).toNat
      else if 4 ≤ (expB l now).length then ([], [], 10) else finB (expB l now ++ [freshB src dst f now]) (expB l now).length := by
  rw [addM, if_pos h, if_pos hn]
  rfl
theorem finB_eq {L : List Buf} {i : Nat} {ps : List Frg} (h : (gt L i).parts = ps) : finB L i = if (joinR ps).2 = true then (L.eraseIdx i, (joinR ps).1, 0) else (L, [], 0) := by
  unfold finB joinR
  rw [h]
  cases joinF ps <;> rfl
theorem elem_set {rows : List SV} {i : Nat} {s : SV} (h : i < rows.length) : (rows.set i s)[i]? = some s := by simp [h]
theorem elem_snoc {rows : List SV} {n : Nat} {s : SV} (h : rows.length = n) : (rows ++ [s])[n]? = some s := by subst h; simp
theorem gt_snoc {L : List Buf} {b : Buf} : gt (L ++ [b]) L.length = b := by rw [gt_app, if_neg (by omega), Nat.sub_self]; rfl
theorem k_xAdd (l : List Buf) (t : Tg) (hl : sizL l) (src dst : Adr) (f : Frg) (hd : f.data.length ≤ 9223372036854775807) (now : Int) :
    Con Tryz.prog 43 [.fs t 10 (lst bufV l), adrV src, adrV dst, frgV f, int now] [] (addV (addM l src dst f now)) [] := by
  have cV := k_Valid l t hl
  have cS := k_place src
  have cD := k_place dst
  have cF := k_fValid f .no hd
  by_cases hok : validL l = true ∧ someA src = true ∧ someA dst = true ∧ okF f = true
  case neg =>
    rw [addM_bad hok]
    refine Con.fin (rows := []) (n1 := 0) (n2 := 0) ?_ ⟨rfl, fun i s b h => by simp at h⟩ rfl rfl
    refine spec_of_run ttok mixed (T0 := 2535320694385462359762682249183) (ts := [.tmp 10, .tmp 11, .tmp 12]) 109 rfl rfl rfl rfl (by simp) rfl ?_
    conv => whnf
    repeat' (first | with_reducible apply True.intro | ((first | (apply CallN.mk (cV)) | (apply CallN.mk (cS)) | (apply CallN.mk (cD)) | (apply CallN.mk (cF)) | (with_reducible first | apply Bif.T | apply Bif.F) | (with_reducible apply Bif.not) | ((with_reducible apply Bif.mk) <;> intro h) | (with_reducible apply Same.rfl) | (apply Same.int; focus rfl) | (apply Same.rfl) | (with_reducible apply Frz.l)) <;> conv => whnf) | fail)
    all_goals (exact absurd ⟨‹_›, ‹_›, ‹_›, ‹_›⟩ hok)
  have hok2 := hok
  obtain ⟨o1, o2, o3, o4⟩ := hok2
  rw [o1] at cV
  rw [o2] at cS
  rw [o3] at cD
  rw [o4] at cF
  have cE := k_xExpire l t hl now
  by_cases hn : isTm now
  case neg =>
    rw [addM_time hok hn]
    rw [show expM l now = ([], 2) by rw [expM, if_pos o1, if_neg hn]] at cE
    refine Con.fin (rows := []) (n1 := 0) (n2 := 0) ?_ ⟨rfl, fun i s b h => by simp at h⟩ rfl rfl
    refine spec_of_run ttok mixed (T0 := 2535320694385462359762682249183) (ts := [.tmp 10, .tmp 11, .tmp 12]) 109 rfl rfl rfl rfl (by simp) rfl ?_
    conv => whnf
    repeat' (first | with_reducible apply True.intro | ((first | (apply CallN.mk (cV)) | (apply CallN.mk (cS)) | (apply CallN.mk (cD)) | (apply CallN.mk (cF)) | (apply CallN.mk (cE)) | (with_reducible first | apply Bif.T | apply Bif.F) | ((with_reducible apply Bif.bne) <;> intro h <;> (try simp only [lns] at h) <;> (try (exfalso; omega))) | (with_reducible apply Bif.not) | (with_reducible apply Same.rfl) | (apply Same.rfl) | (with_reducible apply Frz.l)) <;> conv => whnf) | fail)
  rw [addM_ok hok hn]
  rw [show expM l now = (expB l now, 0) by rw [expM, if_pos o1, if_pos hn]] at cE
  dsimp only at cE
  have hK := (expB_len l now)
  have hl4 := (validL_iff.1 o1).1
  have hKv : ∀ b ∈ expB l now, validB b = true := fun b hb => by
    have := (List.mem_filter.1 hb).1
    obtain ⟨i, hi, rfl⟩ := List.mem_iff_getElem.1 this
    rw [← gt_eq hi]; exact ((validL_iff.1 o1).2 i hi).1
  generalize expB l now = K at *
  have cI := k_idxA K src dst f (by omega)
  have hff := okF_iff.1 o4
  have cFr := k_fresh src dst f now hn (by omega)
  rcases idxF_cases (keyF src dst f) K with ⟨hx, he⟩ | ⟨i, hi, hx, hp, he⟩
  · have hany : K.any (keyF src dst f) = false := by rw [← idxF_any, hx]; rfl
    rw [hany, if_neg (by simp)]
    rw [hx] at cI
    by_cases h4 : 4 ≤ K.length
    · rw [if_pos h4]
      refine Con.fin (rows := []) (n1 := 0) (n2 := 0) ?_ ⟨rfl, fun i s b h => by simp at h⟩ rfl rfl
      refine spec_of_run ttok mixed (T0 := 2535320694385462359762682249183) (ts := [.tmp 10, .tmp 11, .tmp 12]) 109 rfl rfl rfl rfl (by simp) rfl ?_
      conv => whnf
      repeat' (first | with_reducible apply True.intro | ((with_reducible apply GiveN.keep [0]); (conv => whnf); (apply CallKN.mk cI); (conv => whnf)) | ((first | (apply CallN.mk (cV)) | (apply CallN.mk (cS)) | (apply CallN.mk (cD)) | (apply CallN.mk (cF)) | (apply CallN.mk (cE)) | (with_reducible first | apply Bif.T | apply Bif.F) | ((with_reducible first | apply Bif.dec | apply Bif.bne) <;> intro h <;> (try simp only [lns] at h) <;> (try (exfalso; omega))) | (with_reducible apply Bif.not) | (with_reducible apply Same.rfl) | (apply Same.int; focus rfl) | (apply Same.rfl) | (with_reducible apply Frz.l)) <;> conv => whnf) | fail)
    · rw [if_neg h4, finB_eq (ps := [f]) (by rw [gt_snoc]; rfl)]
      have cJ := fun t => k_fJoinC [f] t (by simp) (by simpa using hd)
      have hrw : RowW (lst bufC K ++ [bufC (freshB src dst f now)]) (K ++ [freshB src dst f now]) := (RowW.all K).app (RowW.all [freshB src dst f now])
      cases hj : (joinR [f]).2
      · simp only [hj] at cJ
        rw [if_neg (by simp)]
        refine Con.fin (rows := lst bufC K ++ [bufC (freshB src dst f now)]) (n1 := K.length + 1) (n2 := 0) ?_ hrw (by simp) rfl
        refine spec_of_run ttok mixed (T0 := 2535320694385462359762682249183) (ts := [.tmp 10, .tmp 11, .tmp 12]) 109 rfl rfl rfl rfl (by simp) rfl ?_
        conv => whnf
        repeat' (first | with_reducible apply True.intro | ((with_reducible apply GiveN.keep [0]); (conv => whnf); (apply CallKN.mk cI); (conv => whnf)) | ((apply Elem.mk _ (elem_snoc (by simp [lst]))); (conv => whnf)) | ((first | ((with_reducible apply Nm.mk); focus ((try simp only [lns]); exact rfl)) | ((with_reducible apply Need.mk); focus first | omega | (simp only [lns]; omega) | (unfold roomOK; simp only [lns]; omega)) | (apply CallN.mk (cV)) | (apply CallN.mk (cS)) | (apply CallN.mk (cD)) | (apply CallN.mk (cF)) | (apply CallN.mk (cE)) | (apply CallN.mk (cFr)) | (apply CallN.mk (cJ _)) | (with_reducible first | apply Bif.T | apply Bif.F) | ((with_reducible first | apply Bif.dec | apply Bif.bne) <;> intro h <;> (try simp only [lns] at h) <;> (try (exfalso; omega))) | (with_reducible apply Bif.not) | (with_reducible apply Same.rfl) | (apply Same.int; focus rfl) | (apply Same.rfl) | (with_reducible first | apply Alt.l | apply Cut.l) | (with_reducible apply Frz.l)) <;> conv => whnf) | fail)
      · simp only [hj] at cJ
        rw [if_pos rfl]
        have cDel := k_Delete_Buf (lst bufC K ++ [bufC (freshB src dst f now)]) K.length (by simp [lst]) (by simp [lst]; omega)
        rw [show (lst bufC K ++ [bufC (freshB src dst f now)]).length = K.length + 1 by simp [lst]] at cDel
        refine Con.fin (rows := (lst bufC K ++ [bufC (freshB src dst f now)]).take K.length ++ (lst bufC K ++ [bufC (freshB src dst f now)]).drop (K.length + 1)) (n1 := K.length + 1 - 1) (n2 := (joinR [f]).1.length) ?_ (hrw.del K.length) (by rw [List.length_eraseIdx]; simp) rfl
        refine spec_of_run ttok mixed (T0 := 2535320694385462359762682249183) (ts := [.tmp 10, .tmp 11, .tmp 12]) 109 rfl rfl rfl rfl (by simp) rfl ?_
        conv => whnf
        repeat' (first | with_reducible apply True.intro | ((with_reducible apply GiveN.keep [0]); (conv => whnf); (apply CallKN.mk cI); (conv => whnf)) | ((apply Elem.mk _ (elem_snoc (by simp [lst]))); (conv => whnf)) | ((with_reducible apply GiveN.mk [0]); (conv => whnf); (apply CallN.mk cDel); (conv => whnf)) | ((first | ((with_reducible apply Nm.mk); focus ((try simp only [lns]); exact rfl)) | ((with_reducible apply Wr.i64); focus omega) | ((with_reducible apply Need.mk); focus first | omega | (simp only [lns]; omega) | (unfold roomOK; simp only [lns]; omega)) | (apply CallN.mk (cV)) | (apply CallN.mk (cS)) | (apply CallN.mk (cD)) | (apply CallN.mk (cF)) | (apply CallN.mk (cE)) | (apply CallN.mk (cFr)) | (apply CallN.mk (cJ _)) | (with_reducible first | apply Bif.T | apply Bif.F) | ((with_reducible first | apply Bif.dec | apply Bif.bne) <;> intro h <;> (try simp only [lns] at h) <;> (try (exfalso; omega))) | (with_reducible apply Bif.not) | (with_reducible apply Same.rfl) | (apply Same.int; focus rfl) | (with_reducible first | apply Alt.l | apply Cut.l) | (with_reducible apply Frz.l)) <;> conv => whnf) | fail)
  · have hany : K.any (keyF src dst f) = true := List.any_eq_true.2 ⟨_, gt_mem hi, hp⟩
    rw [hany, if_pos rfl, hx, Int.toNat_natCast]
    rw [hx] at cI
    have hBv := hKv _ (gt_mem hi)
    obtain ⟨hpl, hpf⟩ := validB_parts hBv
    simp only [validB, Bool.and_eq_true] at hBv
    have hPo := hBv.2.2.2.2
    have hP := (partsOK_iff.1 hPo).1
    have hil : i < (lst bufC K).length := by simp [lst]; omega
    by_cases hsame : (gt K i).parts.any (eqP · f) = true
    · have hw : withB (gt K i) f (freshB src dst f now) = gt K i := by rw [withB, addP, if_pos hsame]
      rw [hw, show K.set i (gt K i) = K by rw [gt_eq hi]; exact List.set_getElem_self hi, finB_eq rfl]
      have hj : (joinR (gt K i).parts).2 = false := by rw [joinR_isNone, joinF_none hPo]; rfl
      rw [hj, if_neg (by simp)]
      have cIns := k_insSame (gt K i).parts f .no hP o4 hpl hsame
      refine Con.fin (rows := lst bufC K) (n1 := K.length) (n2 := 0) ?_ (RowW.all K) rfl rfl
      refine spec_of_run ttok mixed (T0 := 2535320694385462359762682249183) (ts := [.tmp 10, .tmp 11, .tmp 12]) 109 rfl rfl rfl rfl (by simp) rfl ?_
      conv => whnf
      repeat' (first | with_reducible apply True.intro | ((with_reducible apply GiveN.keep [0]); (conv => whnf); (apply CallKN.mk cI); (conv => whnf)) | ((first | ((with_reducible apply Nm.mk); focus ((try simp only [lns]); exact rfl)) | ((with_reducible apply Need.mk); focus first | omega | kernel_rfl) | ((with_reducible apply Elem.lst); focus omega) | (apply CallN.mk (cV)) | (apply CallN.mk (cS)) | (apply CallN.mk (cD)) | (apply CallN.mk (cF)) | (apply CallN.mk (cE)) | (apply CallN.mk (cIns)) | (with_reducible first | apply Bif.T | apply Bif.F) | ((with_reducible first | apply Bif.dec | apply Bif.bne) <;> intro h <;> (try simp only [lns] at h) <;> (try (exfalso; omega))) | (with_reducible apply Bif.not) | (with_reducible apply Same.rfl) | (apply Same.int; focus rfl) | (apply Same.rfl) | (with_reducible apply Cut.l) | (with_reducible apply Frz.l)) <;> conv => whnf) | fail)
    · have hs2 : (gt K i).parts.any (eqP · f) = false := by simpa using hsame
      cases hclash : (gt K i).parts.any (ovl · f)
      · have hno : ∀ j, j < (gt K i).parts.length → ovl (gt (gt K i).parts j) f = false := fun j hj => by
          rw [List.any_eq_false] at hclash
          simpa using hclash _ (gt_mem hj)
        have hadd := addP_ins o4 hno
        have hw : withB (gt K i) f (freshB src dst f now) = ⟨(gt K i).src, (gt K i).dst, (gt K i).tag, (gt K i).size, insF f (gt K i).parts, (gt K i).upto⟩ := by rw [withB, hadd]
        have hpos := posF_le f (gt K i).parts
        have hinl : (insF f (gt K i).parts).length = (gt K i).parts.length + 1 := by simp [insF]; omega
        have hint : List.take ((gt K i).parts.length + 1) (insF f (gt K i).parts) = insF f (gt K i).parts := List.take_of_length_le (by omega)
        have hfl : f.data.length ≤ 9223372036854775807 := by omega
        have hmem : ∀ x ∈ insF f (gt K i).parts, x.data.length ≤ 9223372036854775807 := fun x hx => by
          simp only [insF, List.mem_append, List.mem_singleton] at hx
          rcases hx with (hx | hx) | hx
          · have := (hpf x (List.mem_of_mem_take hx)).2; omega
          · rw [hx]; exact hfl
          · have := (hpf x (List.mem_of_mem_drop hx)).2; omega
        have cIns := k_insIns (gt K i).parts f .no hP o4 hpl hno
        have cJ := fun t => k_fJoinC (insF f (gt K i).parts) t (by omega) hmem
        rw [hw, finB_eq (by rw [gt_set hi, if_pos rfl])]
        have hrw := (RowW.all K).set i (wk_buf ⟨none, false⟩ ⟨(gt K i).src, (gt K i).dst, (gt K i).tag, (gt K i).size, insF f (gt K i).parts, (gt K i).upto⟩)
        generalize insF f (gt K i).parts = ps at *
        cases hj : (joinR ps).2
        · simp only [hj] at cJ
          rw [if_neg (by simp)]
          refine Con.fin (rows := _) (n1 := K.length) (n2 := 0) ?_ hrw (by simp) rfl
          refine spec_of_run ttok mixed (T0 := 2535320694385462359762682249183) (ts := [.tmp 10, .tmp 11, .tmp 12]) 109 rfl rfl rfl rfl (by simp) rfl ?_
          conv => whnf
          repeat' (first | with_reducible apply True.intro | ((with_reducible apply GiveN.keep [0]); (conv => whnf); (apply CallKN.mk cI); (conv => whnf)) | ((apply Elem.mk _ (elem_set hil)); (conv => whnf)) | ((first | ((with_reducible apply Nm.mk); focus ((try simp only [lns, hint]); exact rfl)) | ((with_reducible apply Need.mk); focus first | omega | (simp only [lns, hint]; omega) | kernel_rfl) | ((with_reducible apply Elem.lst); focus omega) | (apply CallN.mk (cV)) | (apply CallN.mk (cS)) | (apply CallN.mk (cD)) | (apply CallN.mk (cF)) | (apply CallN.mk (cE)) | (apply CallN.mk (cIns)) | (apply CallN.mk (cJ _)) | (with_reducible first | apply Bif.T | apply Bif.F) | ((with_reducible first | apply Bif.dec | apply Bif.bne) <;> intro h <;> (try simp only [lns, hint] at h) <;> (try (exfalso; omega))) | (with_reducible apply Bif.not) | (with_reducible apply Same.rfl) | (apply Same.int; focus rfl) | (apply Same.rfl) | (with_reducible apply Cut.l) | (with_reducible apply Frz.l)) <;> conv => whnf) | fail)
        · simp only [hj] at cJ
          rw [if_pos rfl]
          have cDel := fun s => k_Delete_Buf ((lst bufC K).set i s) i (by simpa using hil) (by simp [lst]; omega)
          simp only [List.length_set, show (lst bufC K).length = K.length by simp [lst]] at cDel
          refine Con.fin (rows := _) (n1 := K.length - 1) (n2 := (joinR ps).1.length) ?_ (hrw.del i) (by rw [List.length_eraseIdx]; simp [hi]) rfl
          refine spec_of_run ttok mixed (T0 := 2535320694385462359762682249183) (ts := [.tmp 10, .tmp 11, .tmp 12]) 109 rfl rfl rfl rfl (by simp) rfl ?_
          conv => whnf
          repeat' (first | with_reducible apply True.intro | ((with_reducible apply GiveN.keep [0]); (conv => whnf); (apply CallKN.mk cI); (conv => whnf)) | ((apply Elem.mk _ (elem_set hil)); (conv => whnf)) | ((with_reducible apply GiveN.mk [0]); (conv => whnf); (apply CallN.mk (cDel _)); (conv => whnf)) | ((first | ((with_reducible apply Nm.mk); focus ((try simp only [lns, hint]); exact rfl)) | ((with_reducible apply Wr.i64); focus omega) | ((with_reducible apply Need.mk); focus first | omega | (simp only [lns, hint]; omega) | kernel_rfl) | ((with_reducible apply Elem.lst); focus omega) | (apply CallN.mk (cV)) | (apply CallN.mk (cS)) | (apply CallN.mk (cD)) | (apply CallN.mk (cF)) | (apply CallN.mk (cE)) | (apply CallN.mk (cIns)) | (apply CallN.mk (cJ _)) | (with_reducible first | apply Bif.T | apply Bif.F) | ((with_reducible first | apply Bif.dec | apply Bif.bne) <;> intro h <;> (try simp only [lns, hint] at h) <;> (try (exfalso; omega))) | (with_reducible apply Bif.not) | (with_reducible apply Same.rfl) | (apply Same.int; focus rfl) | (apply Same.rfl) | (with_reducible apply Cut.l) | (with_reducible apply Frz.l)) <;> conv => whnf) | fail)
      · have hcl : addP (gt K i).parts f = none := by rw [addP, hs2, if_neg (by simp), hclash, if_pos rfl]
        have hw : withB (gt K i) f (freshB src dst f now) = freshB src dst f now := by rw [withB, hcl]
        have cIns := k_insClash (gt K i).parts f .no hP o4 hpl hcl
        have cJ := fun t => k_fJoinC [f] t (by simp) (by simpa using hd)
        rw [hw, finB_eq (ps := [f]) (by rw [gt_set hi, if_pos rfl]; rfl)]
        have hrw := (RowW.all K).set i (wk_buf (tgC 1) (freshB src dst f now))
        cases hj : (joinR [f]).2
        · simp only [hj] at cJ
          rw [if_neg (by simp)]
          refine Con.fin (rows := _) (n1 := K.length) (n2 := 0) ?_ hrw (by simp) rfl
          refine spec_of_run ttok mixed (T0 := 2535320694385462359762682249183) (ts := [.tmp 10, .tmp 11, .tmp 12]) 109 rfl rfl rfl rfl (by simp) rfl ?_
          conv => whnf
          repeat' (first | with_reducible apply True.intro | ((with_reducible apply GiveN.keep [0]); (conv => whnf); (apply CallKN.mk cI); (conv => whnf)) | ((apply Elem.mk _ (elem_set hil)); (conv => whnf)) | ((first | ((with_reducible apply Nm.mk); focus ((try simp only [lns]); exact rfl)) | ((with_reducible apply Need.mk); focus first | omega | (simp only [lns]; omega) | kernel_rfl) | ((with_reducible apply Elem.lst); focus omega) | (apply CallN.mk (cV)) | (apply CallN.mk (cS)) | (apply CallN.mk (cD)) | (apply CallN.mk (cF)) | (apply CallN.mk (cE)) | (apply CallN.mk (cIns)) | (apply CallN.mk (cFr)) | (apply CallN.mk (cJ _)) | (with_reducible first | apply Bif.T | apply Bif.F) | ((with_reducible first | apply Bif.dec | apply Bif.bne) <;> intro h <;> (try simp only [lns] at h) <;> (try (exfalso; omega))) | (with_reducible apply Bif.not) | (with_reducible apply Same.rfl) | (apply Same.int; focus rfl) | (apply Same.rfl) | (with_reducible apply Cut.l) | (with_reducible apply Frz.l)) <;> conv => whnf) | fail)
        · simp only [hj] at cJ
          rw [if_pos rfl]
          have cDel := fun s => k_Delete_Buf ((lst bufC K).set i s) i (by simpa using hil) (by simp [lst]; omega)
          simp only [List.length_set, show (lst bufC K).length = K.length by simp [lst]] at cDel
          refine Con.fin (rows := _) (n1 := K.length - 1) (n2 := (joinR [f]).1.length) ?_ (hrw.del i) (by rw [List.length_eraseIdx]; simp [hi]) rfl
          refine spec_of_run ttok mixed (T0 := 2535320694385462359762682249183) (ts := [.tmp 10, .tmp 11, .tmp 12]) 109 rfl rfl rfl rfl (by simp) rfl ?_
          conv => whnf
          repeat' (first | with_reducible apply True.intro | ((with_reducible apply GiveN.keep [0]); (conv => whnf); (apply CallKN.mk cI); (conv => whnf)) | ((apply Elem.mk _ (elem_set hil)); (conv => whnf)) | ((with_reducible apply GiveN.mk [0]); (conv => whnf); (apply CallN.mk (cDel _)); (conv => whnf)) | ((first | ((with_reducible apply Nm.mk); focus ((try simp only [lns]); exact rfl)) | ((with_reducible apply Wr.i64); focus omega) | ((with_reducible apply Need.mk); focus first | omega | (simp only [lns]; omega) | kernel_rfl) | ((with_reducible apply Elem.lst); focus omega) | (apply CallN.mk (cV)) | (apply CallN.mk (cS)) | (apply CallN.mk (cD)) | (apply CallN.mk (cF)) | (apply CallN.mk (cE)) | (apply CallN.mk (cIns)) | (apply CallN.mk (cFr)) | (apply CallN.mk (cJ _)) | (with_reducible first | apply Bif.T | apply Bif.F) | ((with_reducible first | apply Bif.dec | apply Bif.bne) <;> intro h <;> (try simp only [lns] at h) <;> (try (exfalso; omega))) | (with_reducible apply Bif.not) | (with_reducible apply Same.rfl) | (apply Same.int; focus rfl) | (apply Same.rfl) | (with_reducible apply Cut.l) | (with_reducible apply Frz.l)) <;> conv => whnf) | fail)
end Go.Fw

/- Fragments: Split of the program; plain law. -/
namespace Go.Fw
open Go.Proofs
set_option maxHeartbeats 8000000
set_option maxRecDepth 4000
/-! ### Fragments -/
def cutN (room a n : Nat) : Nat := if n - a > (if 0 < a then room - 5 else room - 4) then (if 0 < a then room - 5 else room - 4) / 8 * 8 else n - a
def spF (room : Nat) (tag : Int) (b : List UInt8) : Nat → Nat → List Frg
  | 0, _ => []
  | k + 1, a => if a < b.length then ⟨b.length, tag, a, (b.drop a).take (cutN room a b.length)⟩ :: spF room tag b k (a + cutN room a b.length) else []
theorem cutN_le {room a n : Nat} (h : a < n) (hr : 13 ≤ room) : 1 ≤ cutN room a n ∧ a + cutN room a n ≤ n := by
  unfold cutN
  split <;> split <;> omega
structure SpI (room : Nat) (tag : Int) (b : List UInt8) where
  a : Nat
  o : List Frg
  k : Nat
  ha : a ≤ b.length
  hk : b.length - a ≤ k
  ho : o.length ≤ a
  e : o ++ spF room tag b k a = spF room tag b b.length 0
/-- Fragments that follow each other, of one datagram. -/
def Chn (b : List UInt8) (tag : Int) : Nat → List Frg → Prop
  | a, [] => a = b.length
  | a, f :: r => f.size = b.length ∧ f.tag = tag ∧ f.off = a ∧ okF f = true ∧ f.data = (b.drop a).take f.data.length ∧ Chn b tag (a + f.data.length) r
theorem spF_chn {room : Nat} {tag : Int} {b : List UInt8} (hb : 1 ≤ b.length ∧ b.length ≤ 2047) (hr : 13 ≤ room) : ∀ (k a : Nat), a ≤ b.length → b.length - a ≤ k → a % 8 = 0 ∨ a = b.length → Chn b tag a (spF room tag b k a)
  | 0, a, h1, h2, _ => by rw [spF]; show a = b.length; omega
  | k + 1, a, h1, h2, h3 => by
    rw [spF]
    by_cases hab : a < b.length
    · rw [if_pos hab]
      have hc := cutN_le hab hr
      have h8 : cutN room a b.length % 8 = 0 ∨ a + cutN room a b.length = b.length := by
        unfold cutN
        split <;> split <;> omega
      have hl : ((b.drop a).take (cutN room a b.length)).length = cutN room a b.length := by simp; omega
      have hm : ((a : Nat) : Int).tmod 8 = 0 := by rw [Int.tmod_eq_emod_of_nonneg (by omega)]; omega
      refine ⟨rfl, rfl, rfl, okF_iff.2 ⟨?_, ?_, ?_, hm, ?_, ?_, ?_⟩, ?_, ?_⟩
      · dsimp only; omega
      · dsimp only; omega
      · dsimp only; omega
      · rw [hl]; omega
      · dsimp only; rw [hl]; omega
      · dsimp only
        rw [hl]
        rcases h8 with h8 | h8
        · right; rw [Int.tmod_eq_emod_of_nonneg (by omega)]; omega
        · left; omega
      · dsimp only; rw [hl]
      · dsimp only
        rw [hl]
        refine spF_chn hb hr k _ (by omega) (by omega) ?_
        rcases h8 with h8 | h8
        · left; omega
        · right; exact h8
    · rw [if_neg hab]; show a = b.length; omega
theorem spF_len {room : Nat} {tag : Int} {b : List UInt8} (hr : 13 ≤ room) : ∀ (k a : Nat), (spF room tag b k a).length ≤ b.length - a
  | 0, a => by simp [spF]
  | k + 1, a => by
    rw [spF]
    by_cases hab : a < b.length
    · rw [if_pos hab, List.length_cons]
      have := cutN_le hab hr
      have := spF_len (room := room) (tag := tag) (b := b) hr k (a + cutN room a b.length)
      omega
    · rw [if_neg hab]; simp
end Go.Fw

/- Whole datagrams: the plain law of parts that are seen. -/
namespace Go.Fw
set_option maxRecDepth 4000
open Go.Proofs
set_option maxHeartbeats 4000000
/-- The elements that are chosen. -/
def sel {α : Type} : List Bool → List α → List α
  | true :: s, x :: r => x :: sel s r
  | false :: s, _ :: r => sel s r
  | _, _ => []
theorem sel_mem {α : Type} [Inhabited α] : ∀ {s : List Bool} {l : List α} {x : α}, x ∈ sel s l → ∃ j, j < l.length ∧ s[j]? = some true ∧ x = gt l j
  | [], _, _, h => by simp [sel] at h
  | _ :: _, [], _, h => by simp [sel] at h
  | true :: s, y :: r, x, h => by
    rw [sel] at h
    rcases List.mem_cons.1 h with rfl | h
    · exact ⟨0, by simp, rfl, rfl⟩
    · obtain ⟨j, h1, h2, h3⟩ := sel_mem h
      exact ⟨j + 1, by simp; omega, h2, h3⟩
  | false :: s, y :: r, x, h => by
    rw [sel] at h
    obtain ⟨j, h1, h2, h3⟩ := sel_mem h
    exact ⟨j + 1, by simp; omega, h2, h3⟩
theorem mem_sel {α : Type} [Inhabited α] : ∀ {s : List Bool} {l : List α} {j : Nat}, j < l.length → s[j]? = some true → gt l j ∈ sel s l
  | [], _, _, _, h => by simp at h
  | _ :: _, [], _, h, _ => by simp at h
  | b :: s, y :: r, 0, _, h => by
    simp at h; subst h
    rw [sel]; exact List.mem_cons_self
  | b :: s, y :: r, j + 1, h, g => by
    have := mem_sel (s := s) (l := r) (j := j) (by simpa using h) (by simpa using g)
    cases b
    · rw [sel]; exact this
    · rw [sel]; exact List.mem_cons_of_mem _ this
theorem sel_all {α : Type} : ∀ {s : List Bool} {l : List α}, s.length = l.length → s.all id = true → sel s l = l
  | [], [], _, _ => rfl
  | [], _ :: _, h, _ => by simp at h
  | _ :: _, [], h, _ => by simp at h
  | b :: s, y :: r, h, g => by
    simp only [List.all_cons, Bool.and_eq_true, id] at g
    obtain ⟨rfl, g⟩ := g
    rw [sel, sel_all (by simpa using h) g]
section
variable {b : List UInt8} {tag : Int}
theorem chn_le : ∀ {l : List Frg} {a : Nat}, Chn b tag a l → a ≤ b.length
  | [], a, h => by have h : a = b.length := h; omega
  | f :: r, a, h => by have := chn_le h.2.2.2.2.2; omega
theorem sel_parts : ∀ {l : List Frg} {a : Nat} {s : List Bool}, Chn b tag a l → Parts b.length tag a (sel s l)
  | [], a, s, _ => by
    have : sel s ([] : List Frg) = [] := by cases s with | nil => rfl | cons x s => cases x <;> rfl
    rw [this]; exact ⟨by simp, .nil⟩
  | f :: r, a, [], _ => ⟨by simp [sel], .nil⟩
  | f :: r, a, false :: s, h => by
    have ih := sel_parts (s := s) h.2.2.2.2.2
    refine ⟨fun x hx => ?_, ih.pw⟩
    obtain ⟨h1, h2, h3, h4⟩ := ih.all x hx
    exact ⟨h1, h2, h3, by omega⟩
  | f :: r, a, true :: s, h => by
    obtain ⟨h1, h2, h3, h4, h5, h6⟩ := h
    have ih := sel_parts (s := s) h6
    rw [sel]
    refine ⟨fun x hx => ?_, List.pairwise_cons.2 ⟨fun x hx => ?_, ih.pw⟩⟩
    · rcases List.mem_cons.1 hx with rfl | hx
      · exact ⟨h4, h1, h2, by omega⟩
      · obtain ⟨g1, g2, g3, g4⟩ := ih.all x hx
        exact ⟨g1, g2, g3, by omega⟩
    · have := (ih.all x hx).2.2.2
      unfold fEnd
      omega
theorem sel_cov : ∀ {l : List Frg} {a : Nat} {s : List Bool}, Chn b tag a l → s.length = l.length → covP (sel s l) ≤ b.length - a ∧ (s.all id = true → covP (sel s l) = b.length - a) ∧ (s.all id = false → covP (sel s l) < b.length - a)
  | [], a, [], h, _ => by
    have h : a = b.length := h
    simp [sel, covP]; omega
  | [], a, _ :: _, _, h => by simp at h
  | f :: r, a, [], _, h => by simp at h
  | f :: r, a, false :: s, h, hs => by
    have h4 := okF_iff.1 h.2.2.2.1
    have h6 := h.2.2.2.2.2
    have ih := (sel_cov (s := s) h6 (by simpa using hs)).1
    have := chn_le h6
    rw [sel]
    refine ⟨by omega, fun h => by simp at h, fun _ => by omega⟩
  | f :: r, a, true :: s, h, hs => by
    have h4 := okF_iff.1 h.2.2.2.1
    have h6 := h.2.2.2.2.2
    obtain ⟨i1, i2, i3⟩ := sel_cov (s := s) h6 (by simpa using hs)
    have := chn_le h6
    rw [sel, covP]
    refine ⟨by omega, fun h => ?_, fun h => ?_⟩
    · have := i2 (by simpa using h); omega
    · have := i3 (by simpa using h); omega
/-- Inserted, step by step. -/
def insG (f : Frg) : List Frg → List Frg
  | [] => [f]
  | p :: r => if p.off < f.off then p :: insG f r else f :: p :: r
theorem insF_insG (f : Frg) : ∀ (l : List Frg), insF f l = insG f l
  | [] => rfl
  | p :: r => by
    unfold insG
    by_cases h : p.off < f.off
    · rw [if_pos h, ← insF_insG f r]
      have : posF f (p :: r) = posF f r + 1 := by
        unfold posF bsA
        simp [List.takeWhile_cons, h]
      unfold insF
      rw [this]
      simp
    · rw [if_neg h]
      have : posF f (p :: r) = 0 := by
        unfold posF bsA
        simp [List.takeWhile_cons, h]
      unfold insF
      rw [this]
      simp
theorem insG_first {f : Frg} : ∀ {l : List Frg}, (∀ x ∈ l, ¬ x.off < f.off) → insG f l = f :: l
  | [], _ => rfl
  | p :: r, h => by rw [insG, if_neg (h p (by simp))]
theorem insG_sel : ∀ {l : List Frg} {a : Nat} {s : List Bool} {k : Nat}, Chn b tag a l → s.length = l.length → k < l.length → s[k]? = some false → insG (gt l k) (sel s l) = sel (s.set k true) l
  | [], _, _, _, _, _, h, _ => by simp at h
  | f :: r, a, [], k, _, h, _, _ => by simp at h
  | f :: r, a, x :: s, 0, h, hs, _, hk => by
    simp at hk; subst hk
    have hp := sel_parts (s := s) h.2.2.2.2.2
    have h4 := okF_iff.1 h.2.2.2.1
    have h3 := h.2.2.1
    rw [List.set_cons_zero, sel, sel]
    refine insG_first fun y hy => ?_
    have := (hp.all y hy).2.2.2
    show ¬ y.off < f.off
    omega
  | f :: r, a, x :: s, k + 1, h, hs, hk, hsk => by
    have h6 := h.2.2.2.2.2
    have h4 := okF_iff.1 h.2.2.2.1
    have ih := insG_sel (s := s) (k := k) h6 (by simpa using hs) (by simpa using hk) (by simpa using hsk)
    have e : gt (f :: r) (k + 1) = gt r k := rfl
    rw [e, List.set_cons_succ]
    cases x
    · rw [sel, sel]; exact ih
    · have hp := sel_parts (s := List.replicate r.length true) h6
      have hm : gt r k ∈ sel (List.replicate r.length true) r := mem_sel (by simpa using hk) (by rw [List.getElem?_replicate, if_pos (by simpa using hk)])
      have := (hp.all _ hm).2.2.2
      have h3 := h.2.2.1
      rw [sel, sel, insG, if_pos (by omega), ih]
theorem chn_parts {l : List Frg} {a : Nat} (h : Chn b tag a l) : Parts b.length tag a l := by
  have := sel_parts (s := List.replicate l.length true) h
  rwa [sel_all (by simp) (by simp)] at this
theorem chn_apart {l : List Frg} {a j k : Nat} (h : Chn b tag a l) (hj : j < l.length) (hk : k < l.length) (hjk : j ≠ k) : ovl (gt l j) (gt l k) = false := by
  have hp := chn_parts h
  rw [ovl_ff]
  rcases Nat.lt_or_gt_of_ne hjk with h1 | h1
  · have := hp.at h1 hk; unfold fEnd at this; omega
  · have := hp.at h1 hj; unfold fEnd at this; omega
/-- One more part. -/
theorem addP_sel {l : List Frg} {a : Nat} {s : List Bool} {k : Nat} (h : Chn b tag a l) (hs : s.length = l.length) (hk : k < l.length) : addP (sel s l) (gt l k) = some (sel (s.set k true) l) := by
  have hsk : k < s.length := by omega
  cases hb : s[k] with
  | true =>
    have hst : s.set k true = s := by rw [← hb]; exact List.set_getElem_self hsk
    rw [hst, addP, if_pos]
    exact List.any_eq_true.2 ⟨_, mem_sel hk (by rw [List.getElem?_eq_getElem hsk, hb]), by simp [eqP]⟩
  | false =>
    have hok := (chn_parts h).ok hk
    rw [addP_ins hok, insF_insG, insG_sel h hs hk (by rw [List.getElem?_eq_getElem hsk, hb])]
    intro j hj
    obtain ⟨i, h1, h2, h3⟩ := sel_mem (gt_mem hj)
    rw [h3]
    refine chn_apart h h1 hk fun e => ?_
    subst e
    rw [List.getElem?_eq_getElem hsk, hb] at h2
    cases h2
/-- All of it is joined. -/
theorem chn_join : ∀ {l : List Frg} {a : Nat} {x : JS} {c : Int}, Chn b tag a l → JInv b.length x c a → x.out = b.take a ++ List.replicate (b.length - a) 0 → ∃ y, jfold b.length tag x l = some y ∧ y.out = b ∧ y.cnt = c + (b.length - a)
  | [], a, x, c, h, hj, hx => by
    have h : a = b.length := h
    refine ⟨x, rfl, ?_, ?_⟩
    · rw [hx, h, List.take_length, Nat.sub_self]; simp
    · have := hj.ct; omega
  | f :: r, a, x, c, h, hj, hx => by
    obtain ⟨h1, h2, h3, h4, h5, h6⟩ := h
    obtain ⟨e, i⟩ := jstep_ok hj ⟨h4, h1, h2, by omega⟩
    have hle := chn_le h6
    have ho : f.off.toNat = a := by omega
    have he : (fEnd f : Int) = ((a + f.data.length : Nat) : Int) := by unfold fEnd; omega
    rw [he] at i
    obtain ⟨y, g1, g2, g3⟩ := chn_join h6 i (by
      dsimp only
      rw [hx, ho, putL]
      have l1 : (b.take a).length = a := by rw [List.length_take]; omega
      rw [List.take_append_of_le_length (by omega), List.take_of_length_le (by omega), List.drop_append, l1, List.drop_eq_nil_of_le (by omega), List.nil_append, List.drop_replicate]
      rw [List.take_add, ← h5]
      congr 2
      omega)
    refine ⟨y, by rw [jfold, e]; exact g1, g2, by rw [g3]; omega⟩
theorem join_all {l : List Frg} (h : Chn b tag 0 l) (hl : l ≠ []) (hb : 1 ≤ b.length) : joinR l = (b, true) := by
  have hp := chn_parts h
  have hc := (sel_cov (s := List.replicate l.length true) h (by simp)).2.1 (by simp)
  rw [sel_all (by simp) (by simp)] at hc
  obtain ⟨y, e1, e2⟩ := (joinF_parts (s := (b.length : Int)) (t := tag) hp).2 hl (by omega)
  obtain ⟨z, g1, g2, _⟩ := chn_join h (js0_inv b.length) (by simp [js0])
  rw [e1] at g1
  cases g1
  unfold joinR
  rw [e2, g2]
theorem join_some {l : List Frg} {s : List Bool} (h : Chn b tag 0 l) (hs : s.length = l.length) (hn : s.all id = false) : partsOK b.length tag (sel s l) = true ∧ (joinR (sel s l)).2 = false ∧ (joinR (sel s l)).1 = [] := by
  have hp := sel_parts (s := s) h
  have hc := (sel_cov (s := s) h hs).2.2 hn
  have ok : partsOK b.length tag (sel s l) = true := partsOK_iff.2 ⟨hp, by omega⟩
  have := joinF_none ok
  refine ⟨ok, ?_, ?_⟩
  · rw [joinR_isNone, this]; rfl
  · unfold joinR; rw [this]
end
end Go.Fw
