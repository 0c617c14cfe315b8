/- The program's Add: the walk. -/
import Derived.Test.YteebplkhnhpiiaaRasI
namespace Go.Fw
open Go.Proofs
set_option maxHeartbeats 8000000
set_option maxRecDepth 4000
theorem keyF_eq (src dst : Adr) (f : Frg) (now : Int) : (keyB · (freshB src dst f now)) = keyF src dst f := by
  funext b; rfl
theorem addM_bad {l : List Buf} {src dst : Adr} {f : Frg} {now : Int} (h : ¬ (validL l = true ∧ someA src = true ∧ someA dst = true ∧ okF f = true)) : addM l src dst f now = ([], [], 1) := by rw [addM, if_neg h]
theorem addM_time {l : List Buf} {src dst : Adr} {f : Frg} {now : Int} (h : validL l = true ∧ someA src = true ∧ someA dst = true ∧ okF f = true) (hn : ¬ isTm now) : addM l src dst f now = ([], [], 2) := by rw [addM, if_pos h, if_neg hn]
theorem addM_ok {l : List Buf} {src dst : Adr} {f : Frg} {now : Int} (h : validL l = true ∧ someA src = true ∧ someA dst = true ∧ okF f = true) (hn : isTm now) :
    addM l src dst f now = if (expB l now).any (keyF src dst f) = true then finB ((expB l now).set (idxF (keyF src dst f) (expB l now)).toNat (withB (gt (expB l now) (idxF (keyF src dst f) (expB l now)).toNat) f (freshB src dst f now))) (idxF (keyF src dst f) (expB l now)).toNat
      else if 4 ≤ (expB l now).length then ([], [], 10) else finB (expB l now ++ [freshB src dst f now]) (expB l now).length := by
  rw [addM, if_pos h, if_pos hn]
  rfl
theorem finB_eq {L : List Buf} {i : Nat} {ps : List Frg} (h : (gt L i).parts = ps) : finB L i = if (joinR ps).2 = true then (L.eraseIdx i, (joinR ps).1, 0) else (L, [], 0) := by
  unfold finB joinR
  rw [h]
  cases joinF ps <;> rfl
theorem elem_set {rows : List SV} {i : Nat} {s : SV} (h : i < rows.length) : (rows.set i s)[i]? = some s := by simp [h]
theorem elem_snoc {rows : List SV} {n : Nat} {s : SV} (h : rows.length = n) : (rows ++ [s])[n]? = some s := by subst h; simp
theorem gt_snoc {L : List Buf} {b : Buf} : gt (L ++ [b]) L.length = b := by rw [gt_app, if_neg (by omega), Nat.sub_self]; rfl
theorem k_xAdd (l : List Buf) (t : Tg) (hl : sizL l) (src dst : Adr) (f : Frg) (hd : f.data.length ≤ 9223372036854775807) (now : Int) :
    Con Try.prog 20 [.fs t 10 (lst bufV l), adrV src, adrV dst, frgV f, int now] [] (addV (addM l src dst f now)) [] := by
  have cV := k_Valid l t hl
  have cS := k_place src
  have cD := k_place dst
  have cF := k_fValid f .no hd
  by_cases hok : validL l = true ∧ someA src = true ∧ someA dst = true ∧ okF f = true
  case neg =>
    rw [addM_bad hok]
    refine Con.fin (rows := []) (n1 := 0) (n2 := 0) ?_ ⟨rfl, fun i s b h => by simp at h⟩ rfl rfl
    refine spec_of_run ttok mixed (T0 := 2535320694385462359762682249183) (ts := [.tmp 10, .tmp 11, .tmp 12]) 109 rfl rfl rfl rfl (by simp) rfl ?_
    conv => whnf
    repeat' (first | with_reducible apply True.intro | ((first | (apply CallN.mk (cV)) | (apply CallN.mk (cS)) | (apply CallN.mk (cD)) | (apply CallN.mk (cF)) | (with_reducible first | apply Bif.T | apply Bif.F) | (with_reducible apply Bif.not) | ((with_reducible apply Bif.mk) <;> intro h) | (with_reducible apply Same.rfl) | (apply Same.int; focus rfl) | (apply Same.rfl) | (with_reducible apply Frz.l)) <;> conv => whnf) | fail)
    all_goals (exact absurd ⟨‹_›, ‹_›, ‹_›, ‹_›⟩ hok)
  have hok2 := hok
  obtain ⟨o1, o2, o3, o4⟩ := hok2
  rw [o1] at cV
  rw [o2] at cS
  rw [o3] at cD
  rw [o4] at cF
  have cE := k_xExpire l t hl now
  by_cases hn : isTm now
  case neg =>
    rw [addM_time hok hn]
    rw [show expM l now = ([], 2) by rw [expM, if_pos o1, if_neg hn]] at cE
    refine Con.fin (rows := []) (n1 := 0) (n2 := 0) ?_ ⟨rfl, fun i s b h => by simp at h⟩ rfl rfl
    refine spec_of_run ttok mixed (T0 := 2535320694385462359762682249183) (ts := [.tmp 10, .tmp 11, .tmp 12]) 109 rfl rfl rfl rfl (by simp) rfl ?_
    conv => whnf
    repeat' (first | with_reducible apply True.intro | ((first | (apply CallN.mk (cV)) | (apply CallN.mk (cS)) | (apply CallN.mk (cD)) | (apply CallN.mk (cF)) | (apply CallN.mk (cE)) | (with_reducible first | apply Bif.T | apply Bif.F) | ((with_reducible apply Bif.bne) <;> intro h <;> (try simp only [lns] at h) <;> (try (exfalso; omega))) | (with_reducible apply Bif.not) | (with_reducible apply Same.rfl) | (apply Same.rfl) | (with_reducible apply Frz.l)) <;> conv => whnf) | fail)
  rw [addM_ok hok hn]
  rw [show expM l now = (expB l now, 0) by rw [expM, if_pos o1, if_pos hn]] at cE
  dsimp only at cE
  have hK := (expB_len l now)
  have hl4 := (validL_iff.1 o1).1
  have hKv : ∀ b ∈ expB l now, validB b = true := fun b hb => by
    have := (List.mem_filter.1 hb).1
    obtain ⟨i, hi, rfl⟩ := List.mem_iff_getElem.1 this
    rw [← gt_eq hi]; exact ((validL_iff.1 o1).2 i hi).1
  generalize expB l now = K at *
  have cI := k_idxA K src dst f (by omega)
  have hff := okF_iff.1 o4
  have cFr := k_fresh src dst f now hn (by omega)
  rcases idxF_cases (keyF src dst f) K with ⟨hx, he⟩ | ⟨i, hi, hx, hp, he⟩
  · have hany : K.any (keyF src dst f) = false := by rw [← idxF_any, hx]; rfl
    rw [hany, if_neg (by simp)]
    rw [hx] at cI
    by_cases h4 : 4 ≤ K.length
    · rw [if_pos h4]
      refine Con.fin (rows := []) (n1 := 0) (n2 := 0) ?_ ⟨rfl, fun i s b h => by simp at h⟩ rfl rfl
      refine spec_of_run ttok mixed (T0 := 2535320694385462359762682249183) (ts := [.tmp 10, .tmp 11, .tmp 12]) 109 rfl rfl rfl rfl (by simp) rfl ?_
      conv => whnf
      repeat' (first | with_reducible apply True.intro | ((with_reducible apply GiveN.keep [0]); (conv => whnf); (apply CallKN.mk cI); (conv => whnf)) | ((first | (apply CallN.mk (cV)) | (apply CallN.mk (cS)) | (apply CallN.mk (cD)) | (apply CallN.mk (cF)) | (apply CallN.mk (cE)) | (with_reducible first | apply Bif.T | apply Bif.F) | ((with_reducible first | apply Bif.dec | apply Bif.bne) <;> intro h <;> (try simp only [lns] at h) <;> (try (exfalso; omega))) | (with_reducible apply Bif.not) | (with_reducible apply Same.rfl) | (apply Same.int; focus rfl) | (apply Same.rfl) | (with_reducible apply Frz.l)) <;> conv => whnf) | fail)
    · rw [if_neg h4, finB_eq (ps := [f]) (by rw [gt_snoc]; rfl)]
      have cJ := fun t => k_fJoinC [f] t (by simp) (by simpa using hd)
      have hrw : RowW (lst bufC K ++ [bufC (freshB src dst f now)]) (K ++ [freshB src dst f now]) := (RowW.all K).app (RowW.all [freshB src dst f now])
      cases hj : (joinR [f]).2
      · simp only [hj] at cJ
        rw [if_neg (by simp)]
        refine Con.fin (rows := lst bufC K ++ [bufC (freshB src dst f now)]) (n1 := K.length + 1) (n2 := 0) ?_ hrw (by simp) rfl
        refine spec_of_run ttok mixed (T0 := 2535320694385462359762682249183) (ts := [.tmp 10, .tmp 11, .tmp 12]) 109 rfl rfl rfl rfl (by simp) rfl ?_
        conv => whnf
        repeat' (first | with_reducible apply True.intro | ((with_reducible apply GiveN.keep [0]); (conv => whnf); (apply CallKN.mk cI); (conv => whnf)) | ((apply Elem.mk _ (elem_snoc (by simp [lst]))); (conv => whnf)) | ((first | ((with_reducible apply Nm.mk); focus ((try simp only [lns]); exact rfl)) | ((with_reducible apply Need.mk); focus first | omega | (simp only [lns]; omega) | (unfold roomOK; simp only [lns]; omega)) | (apply CallN.mk (cV)) | (apply CallN.mk (cS)) | (apply CallN.mk (cD)) | (apply CallN.mk (cF)) | (apply CallN.mk (cE)) | (apply CallN.mk (cFr)) | (apply CallN.mk (cJ _)) | (with_reducible first | apply Bif.T | apply Bif.F) | ((with_reducible first | apply Bif.dec | apply Bif.bne) <;> intro h <;> (try simp only [lns] at h) <;> (try (exfalso; omega))) | (with_reducible apply Bif.not) | (with_reducible apply Same.rfl) | (apply Same.int; focus rfl) | (apply Same.rfl) | (with_reducible first | apply Alt.l | apply Cut.l) | (with_reducible apply Frz.l)) <;> conv => whnf) | fail)
      · simp only [hj] at cJ
        rw [if_pos rfl]
        have cDel := k_Delete_Buf (lst bufC K ++ [bufC (freshB src dst f now)]) K.length (by simp [lst]) (by simp [lst]; omega)
        rw [show (lst bufC K ++ [bufC (freshB src dst f now)]).length = K.length + 1 by simp [lst]] at cDel
        refine Con.fin (rows := (lst bufC K ++ [bufC (freshB src dst f now)]).take K.length ++ (lst bufC K ++ [bufC (freshB src dst f now)]).drop (K.length + 1)) (n1 := K.length + 1 - 1) (n2 := (joinR [f]).1.length) ?_ (hrw.del K.length) (by rw [List.length_eraseIdx]; simp) rfl
        refine spec_of_run ttok mixed (T0 := 2535320694385462359762682249183) (ts := [.tmp 10, .tmp 11, .tmp 12]) 109 rfl rfl rfl rfl (by simp) rfl ?_
        conv => whnf
        repeat' (first | with_reducible apply True.intro | ((with_reducible apply GiveN.keep [0]); (conv => whnf); (apply CallKN.mk cI); (conv => whnf)) | ((apply Elem.mk _ (elem_snoc (by simp [lst]))); (conv => whnf)) | ((with_reducible apply GiveN.mk [0]); (conv => whnf); (apply CallN.mk cDel); (conv => whnf)) | ((first | ((with_reducible apply Nm.mk); focus ((try simp only [lns]); exact rfl)) | ((with_reducible apply Wr.i64); focus omega) | ((with_reducible apply Need.mk); focus first | omega | (simp only [lns]; omega) | (unfold roomOK; simp only [lns]; omega)) | (apply CallN.mk (cV)) | (apply CallN.mk (cS)) | (apply CallN.mk (cD)) | (apply CallN.mk (cF)) | (apply CallN.mk (cE)) | (apply CallN.mk (cFr)) | (apply CallN.mk (cJ _)) | (with_reducible first | apply Bif.T | apply Bif.F) | ((with_reducible first | apply Bif.dec | apply Bif.bne) <;> intro h <;> (try simp only [lns] at h) <;> (try (exfalso; omega))) | (with_reducible apply Bif.not) | (with_reducible apply Same.rfl) | (apply Same.int; focus rfl) | (with_reducible first | apply Alt.l | apply Cut.l) | (with_reducible apply Frz.l)) <;> conv => whnf) | fail)
  · have hany : K.any (keyF src dst f) = true := List.any_eq_true.2 ⟨_, gt_mem hi, hp⟩
    rw [hany, if_pos rfl, hx, Int.toNat_natCast]
    rw [hx] at cI
    have hBv := hKv _ (gt_mem hi)
    obtain ⟨hpl, hpf⟩ := validB_parts hBv
    simp only [validB, Bool.and_eq_true] at hBv
    have hPo := hBv.2.2.2.2
    have hP := (partsOK_iff.1 hPo).1
    have hil : i < (lst bufC K).length := by simp [lst]; omega
    by_cases hsame : (gt K i).parts.any (eqP · f) = true
    · have hw : withB (gt K i) f (freshB src dst f now) = gt K i := by rw [withB, addP, if_pos hsame]
      rw [hw, show K.set i (gt K i) = K by rw [gt_eq hi]; exact List.set_getElem_self hi, finB_eq rfl]
      have hj : (joinR (gt K i).parts).2 = false := by rw [joinR_isNone, joinF_none hPo]; rfl
      rw [hj, if_neg (by simp)]
      have cIns := k_insSame (gt K i).parts f .no hP o4 hpl hsame
      refine Con.fin (rows := lst bufC K) (n1 := K.length) (n2 := 0) ?_ (RowW.all K) rfl rfl
      refine spec_of_run ttok mixed (T0 := 2535320694385462359762682249183) (ts := [.tmp 10, .tmp 11, .tmp 12]) 109 rfl rfl rfl rfl (by simp) rfl ?_
      conv => whnf
      repeat' (first | with_reducible apply True.intro | ((with_reducible apply GiveN.keep [0]); (conv => whnf); (apply CallKN.mk cI); (conv => whnf)) | ((first | ((with_reducible apply Nm.mk); focus ((try simp only [lns]); exact rfl)) | ((with_reducible apply Need.mk); focus first | omega | kernel_rfl) | ((with_reducible apply Elem.lst); focus omega) | (apply CallN.mk (cV)) | (apply CallN.mk (cS)) | (apply CallN.mk (cD)) | (apply CallN.mk (cF)) | (apply CallN.mk (cE)) | (apply CallN.mk (cIns)) | (with_reducible first | apply Bif.T | apply Bif.F) | ((with_reducible first | apply Bif.dec | apply Bif.bne) <;> intro h <;> (try simp only [lns] at h) <;> (try (exfalso; omega))) | (with_reducible apply Bif.not) | (with_reducible apply Same.rfl) | (apply Same.int; focus rfl) | (apply Same.rfl) | (with_reducible apply Cut.l) | (with_reducible apply Frz.l)) <;> conv => whnf) | fail)
    · have hs2 : (gt K i).parts.any (eqP · f) = false := by simpa using hsame
      cases hclash : (gt K i).parts.any (ovl · f)
      · have hno : ∀ j, j < (gt K i).parts.length → ovl (gt (gt K i).parts j) f = false := fun j hj => by
          rw [List.any_eq_false] at hclash
          simpa using hclash _ (gt_mem hj)
        have hadd := addP_ins o4 hno
        have hw : withB (gt K i) f (freshB src dst f now) = ⟨(gt K i).src, (gt K i).dst, (gt K i).tag, (gt K i).size, insF f (gt K i).parts, (gt K i).upto⟩ := by rw [withB, hadd]
        have hpos := posF_le f (gt K i).parts
        have hinl : (insF f (gt K i).parts).length = (gt K i).parts.length + 1 := by simp [insF]; omega
        have hint : List.take ((gt K i).parts.length + 1) (insF f (gt K i).parts) = insF f (gt K i).parts := List.take_of_length_le (by omega)
        have hfl : f.data.length ≤ 9223372036854775807 := by omega
        have hmem : ∀ x ∈ insF f (gt K i).parts, x.data.length ≤ 9223372036854775807 := fun x hx => by
          simp only [insF, List.mem_append, List.mem_singleton] at hx
          rcases hx with (hx | hx) | hx
          · have := (hpf x (List.mem_of_mem_take hx)).2; omega
          · rw [hx]; exact hfl
          · have := (hpf x (List.mem_of_mem_drop hx)).2; omega
        have cIns := k_insIns (gt K i).parts f .no hP o4 hpl hno
        have cJ := fun t => k_fJoinC (insF f (gt K i).parts) t (by omega) hmem
        rw [hw, finB_eq (by rw [gt_set hi, if_pos rfl])]
        have hrw := (RowW.all K).set i (wk_buf ⟨none, false⟩ ⟨(gt K i).src, (gt K i).dst, (gt K i).tag, (gt K i).size, insF f (gt K i).parts, (gt K i).upto⟩)
        generalize insF f (gt K i).parts = ps at *
        cases hj : (joinR ps).2
        · simp only [hj] at cJ
          rw [if_neg (by simp)]
          refine Con.fin (rows := _) (n1 := K.length) (n2 := 0) ?_ hrw (by simp) rfl
          refine spec_of_run ttok mixed (T0 := 2535320694385462359762682249183) (ts := [.tmp 10, .tmp 11, .tmp 12]) 109 rfl rfl rfl rfl (by simp) rfl ?_
          conv => whnf
          repeat' (first | with_reducible apply True.intro | ((with_reducible apply GiveN.keep [0]); (conv => whnf); (apply CallKN.mk cI); (conv => whnf)) | ((apply Elem.mk _ (elem_set hil)); (conv => whnf)) | ((first | ((with_reducible apply Nm.mk); focus ((try simp only [lns, hint]); exact rfl)) | ((with_reducible apply Need.mk); focus first | omega | (simp only [lns, hint]; omega) | kernel_rfl) | ((with_reducible apply Elem.lst); focus omega) | (apply CallN.mk (cV)) | (apply CallN.mk (cS)) | (apply CallN.mk (cD)) | (apply CallN.mk (cF)) | (apply CallN.mk (cE)) | (apply CallN.mk (cIns)) | (apply CallN.mk (cJ _)) | (with_reducible first | apply Bif.T | apply Bif.F) | ((with_reducible first | apply Bif.dec | apply Bif.bne) <;> intro h <;> (try simp only [lns, hint] at h) <;> (try (exfalso; omega))) | (with_reducible apply Bif.not) | (with_reducible apply Same.rfl) | (apply Same.int; focus rfl) | (apply Same.rfl) | (with_reducible apply Cut.l) | (with_reducible apply Frz.l)) <;> conv => whnf) | fail)
        · simp only [hj] at cJ
          rw [if_pos rfl]
          have cDel := fun s => k_Delete_Buf ((lst bufC K).set i s) i (by simpa using hil) (by simp [lst]; omega)
          simp only [List.length_set, show (lst bufC K).length = K.length by simp [lst]] at cDel
          refine Con.fin (rows := _) (n1 := K.length - 1) (n2 := (joinR ps).1.length) ?_ (hrw.del i) (by rw [List.length_eraseIdx]; simp [hi]) rfl
          refine spec_of_run ttok mixed (T0 := 2535320694385462359762682249183) (ts := [.tmp 10, .tmp 11, .tmp 12]) 109 rfl rfl rfl rfl (by simp) rfl ?_
          conv => whnf
          repeat' (first | with_reducible apply True.intro | ((with_reducible apply GiveN.keep [0]); (conv => whnf); (apply CallKN.mk cI); (conv => whnf)) | ((apply Elem.mk _ (elem_set hil)); (conv => whnf)) | ((with_reducible apply GiveN.mk [0]); (conv => whnf); (apply CallN.mk (cDel _)); (conv => whnf)) | ((first | ((with_reducible apply Nm.mk); focus ((try simp only [lns, hint]); exact rfl)) | ((with_reducible apply Wr.i64); focus omega) | ((with_reducible apply Need.mk); focus first | omega | (simp only [lns, hint]; omega) | kernel_rfl) | ((with_reducible apply Elem.lst); focus omega) | (apply CallN.mk (cV)) | (apply CallN.mk (cS)) | (apply CallN.mk (cD)) | (apply CallN.mk (cF)) | (apply CallN.mk (cE)) | (apply CallN.mk (cIns)) | (apply CallN.mk (cJ _)) | (with_reducible first | apply Bif.T | apply Bif.F) | ((with_reducible first | apply Bif.dec | apply Bif.bne) <;> intro h <;> (try simp only [lns, hint] at h) <;> (try (exfalso; omega))) | (with_reducible apply Bif.not) | (with_reducible apply Same.rfl) | (apply Same.int; focus rfl) | (apply Same.rfl) | (with_reducible apply Cut.l) | (with_reducible apply Frz.l)) <;> conv => whnf) | fail)
      · have hcl : addP (gt K i).parts f = none := by rw [addP, hs2, if_neg (by simp), hclash, if_pos rfl]
        have hw : withB (gt K i) f (freshB src dst f now) = freshB src dst f now := by rw [withB, hcl]
        have cIns := k_insClash (gt K i).parts f .no hP o4 hpl hcl
        have cJ := fun t => k_fJoinC [f] t (by simp) (by simpa using hd)
        rw [hw, finB_eq (ps := [f]) (by rw [gt_set hi, if_pos rfl]; rfl)]
        have hrw := (RowW.all K).set i (wk_buf (tgC 1) (freshB src dst f now))
        cases hj : (joinR [f]).2
        · simp only [hj] at cJ
          rw [if_neg (by simp)]
          refine Con.fin (rows := _) (n1 := K.length) (n2 := 0) ?_ hrw (by simp) rfl
          refine spec_of_run ttok mixed (T0 := 2535320694385462359762682249183) (ts := [.tmp 10, .tmp 11, .tmp 12]) 109 rfl rfl rfl rfl (by simp) rfl ?_
          conv => whnf
          repeat' (first | with_reducible apply True.intro | ((with_reducible apply GiveN.keep [0]); (conv => whnf); (apply CallKN.mk cI); (conv => whnf)) | ((apply Elem.mk _ (elem_set hil)); (conv => whnf)) | ((first | ((with_reducible apply Nm.mk); focus ((try simp only [lns]); exact rfl)) | ((with_reducible apply Need.mk); focus first | omega | (simp only [lns]; omega) | kernel_rfl) | ((with_reducible apply Elem.lst); focus omega) | (apply CallN.mk (cV)) | (apply CallN.mk (cS)) | (apply CallN.mk (cD)) | (apply CallN.mk (cF)) | (apply CallN.mk (cE)) | (apply CallN.mk (cIns)) | (apply CallN.mk (cFr)) | (apply CallN.mk (cJ _)) | (with_reducible first | apply Bif.T | apply Bif.F) | ((with_reducible first | apply Bif.dec | apply Bif.bne) <;> intro h <;> (try simp only [lns] at h) <;> (try (exfalso; omega))) | (with_reducible apply Bif.not) | (with_reducible apply Same.rfl) | (apply Same.int; focus rfl) | (apply Same.rfl) | (with_reducible apply Cut.l) | (with_reducible apply Frz.l)) <;> conv => whnf) | fail)
        · simp only [hj] at cJ
          rw [if_pos rfl]
          have cDel := fun s => k_Delete_Buf ((lst bufC K).set i s) i (by simpa using hil) (by simp [lst]; omega)
          simp only [List.length_set, show (lst bufC K).length = K.length by simp [lst]] at cDel
          refine Con.fin (rows := _) (n1 := K.length - 1) (n2 := (joinR [f]).1.length) ?_ (hrw.del i) (by rw [List.length_eraseIdx]; simp [hi]) rfl
          refine spec_of_run ttok mixed (T0 := 2535320694385462359762682249183) (ts := [.tmp 10, .tmp 11, .tmp 12]) 109 rfl rfl rfl rfl (by simp) rfl ?_
          conv => whnf
          repeat' (first | with_reducible apply True.intro | ((with_reducible apply GiveN.keep [0]); (conv => whnf); (apply CallKN.mk cI); (conv => whnf)) | ((apply Elem.mk _ (elem_set hil)); (conv => whnf)) | ((with_reducible apply GiveN.mk [0]); (conv => whnf); (apply CallN.mk (cDel _)); (conv => whnf)) | ((first | ((with_reducible apply Nm.mk); focus ((try simp only [lns]); exact rfl)) | ((with_reducible apply Wr.i64); focus omega) | ((with_reducible apply Need.mk); focus first | omega | (simp only [lns]; omega) | kernel_rfl) | ((with_reducible apply Elem.lst); focus omega) | (apply CallN.mk (cV)) | (apply CallN.mk (cS)) | (apply CallN.mk (cD)) | (apply CallN.mk (cF)) | (apply CallN.mk (cE)) | (apply CallN.mk (cIns)) | (apply CallN.mk (cFr)) | (apply CallN.mk (cJ _)) | (with_reducible first | apply Bif.T | apply Bif.F) | ((with_reducible first | apply Bif.dec | apply Bif.bne) <;> intro h <;> (try simp only [lns] at h) <;> (try (exfalso; omega))) | (with_reducible apply Bif.not) | (with_reducible apply Same.rfl) | (apply Same.int; focus rfl) | (apply Same.rfl) | (with_reducible apply Cut.l) | (with_reducible apply Frz.l)) <;> conv => whnf) | fail)
end Go.Fw
