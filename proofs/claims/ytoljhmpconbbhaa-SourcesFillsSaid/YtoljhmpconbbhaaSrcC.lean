/- Feasibility distances: Record. -/
import Derived.Test.YtoljhmpconbbhaaSrcB
namespace Go.Fw
open Go.Proofs
set_option maxHeartbeats 4000000
theorem k_search1 (t : Dst) (a : Src) : Con Try.prog 72 [srcV a, dstV t] [] (int (cmpT a.to t)) [] := by
  refine spec_of_run ttok mixed (T0 := 31) (ts := [.tmp 4]) 9 rfl rfl rfl rfl (by simp) rfl ?_
  conv => whnf
  repeat' (first | with_reducible apply True.intro | ((first | (with_reducible first | apply Nm.set _ (int_mk _) | apply Nm.snoc _ (int_mk _) | apply Nm.rep _ (int_mk _) | apply Nm.set _ (bool_mk _) | apply Nm.snoc _ (bool_mk _) | apply Nm.rep _ (bool_mk _) | apply Nm.set _ (rfl) | apply Nm.snoc _ (rfl) | apply Nm.rep _ (rfl)) | ((with_reducible apply Nm.mk); focus ((try simp only [lns, ipRows_take]); exact rfl)) | ((with_reducible first | apply Wr.i64 | apply Wr.u8 | apply Wr.u16 | apply Wr.u32 | apply Wr.u64); focus omega) | ((with_reducible apply Need.mk); focus first | omega | (simp only [lns, ipRows_take]; omega) | exact List.cons_ne_nil _ _ | exact CleanP.nil rfl | exact CleanP.cell rfl rfl | exact CleanP.lst rfl (fun _ => rfl) | kernel_rfl | (dsimp only; omega) | (unfold roomOK; simp only [lns, ipRows_take]; omega)) | ((with_reducible apply Elem.lst); focus first | omega | (simp only [lns, ipRows_take]; omega)) | (apply CallN.mk (k_srcCompare _ _)) | (with_reducible first | apply Bif.T | apply Bif.F) | ((with_reducible first | apply Bif.dec | apply Bif.beq | apply Bif.bne) <;> intro h <;> (try simp only [lns, ipRows_take] at h) <;> (try first | (exfalso; omega) | (exact absurd True.intro h))) | (with_reducible first | apply Bif.not | apply Bif.and | apply Bif.or) | ((with_reducible apply Bif.mk) <;> intro h <;> (try first | (exfalso; omega) | (exact absurd True.intro h))) | (with_reducible apply Same.rfl) | (apply Same.int; focus first | rfl | omega | (dsimp only; omega) | (simp only [lns, ipRows_take]; omega)) | (apply Same.bool; focus (with_reducible rfl)) | (apply Same.ov; (focus first | rfl | omega | (simp only [lns, ipRows_take]; omega)); focus first | rfl | omega | (simp only [lns, ipRows_take]; first | done | omega)) | ((with_reducible apply Same.mk); focus first | omega | (simp only [lns, ipRows_take]; omega)) | (apply Same.rfl) | (with_reducible first | apply Alt.l | apply Sl3.l | apply Cut.l | apply Turn.l | apply GiveN.lend)) <;> conv => whnf) | fail)
abbrev atS (l : List Src) (t : Dst) : Nat := atK cmpT Src.to l t
abbrev fndS (l : List Src) (t : Dst) : Bool := fndK cmpT Src.to l t
theorem k_search (l : List Src) (g : Tg) (t : Dst) (hl : l.length ≤ 1000000) (hv : validS l = true) : Con Try.prog 49 [.fs g 38 (lst srcV l), dstV t] [] (.tup [int (atS l t), bool (fndS l t)]) [] := by
  have hB := k_BSearch_Src 72 t (fun s => cmpT s.to t) (k_search1 t) l g hl (mono_key cmpT_ok hv)
  refine spec_of_run ttok mixed (T0 := 59) (ts := [.tmp 4, .tmp 5]) 11 rfl rfl rfl rfl (by simp) rfl ?_
  conv => whnf
  repeat' (first | with_reducible apply True.intro | ((first | (with_reducible first | apply Nm.set _ (int_mk _) | apply Nm.snoc _ (int_mk _) | apply Nm.rep _ (int_mk _) | apply Nm.set _ (bool_mk _) | apply Nm.snoc _ (bool_mk _) | apply Nm.rep _ (bool_mk _) | apply Nm.set _ (rfl) | apply Nm.snoc _ (rfl) | apply Nm.rep _ (rfl)) | ((with_reducible apply Nm.mk); focus ((try simp only [lns, ipRows_take]); exact rfl)) | ((with_reducible first | apply Wr.i64 | apply Wr.u8 | apply Wr.u16 | apply Wr.u32 | apply Wr.u64); focus omega) | ((with_reducible apply Need.mk); focus first | omega | (simp only [lns, ipRows_take]; omega) | exact List.cons_ne_nil _ _ | exact CleanP.nil rfl | exact CleanP.cell rfl rfl | exact CleanP.lst rfl (fun _ => rfl) | kernel_rfl | (dsimp only; omega) | (unfold roomOK; simp only [lns, ipRows_take]; omega)) | ((with_reducible apply Elem.lst); focus first | omega | (simp only [lns, ipRows_take]; omega)) | (apply CallN.mk (hB)) | (with_reducible first | apply Bif.T | apply Bif.F) | ((with_reducible first | apply Bif.dec | apply Bif.beq | apply Bif.bne) <;> intro h <;> (try simp only [lns, ipRows_take] at h) <;> (try first | (exfalso; omega) | (exact absurd True.intro h))) | (with_reducible first | apply Bif.not | apply Bif.and | apply Bif.or) | ((with_reducible apply Bif.mk) <;> intro h <;> (try first | (exfalso; omega) | (exact absurd True.intro h))) | (with_reducible apply Same.rfl) | (apply Same.int; focus first | rfl | omega | (dsimp only; omega) | (simp only [lns, ipRows_take]; omega)) | (apply Same.bool; focus (with_reducible rfl)) | (apply Same.ov; (focus first | rfl | omega | (simp only [lns, ipRows_take]; omega)); focus first | rfl | omega | (simp only [lns, ipRows_take]; first | done | omega)) | ((with_reducible apply Same.mk); focus first | omega | (simp only [lns, ipRows_take]; omega)) | (apply Same.rfl) | (with_reducible first | apply Alt.l | apply Sl3.l | apply Cut.l | apply Turn.l | apply GiveN.lend)) <;> conv => whnf) | fail)
def recGood (l : List Src) (t : Dst) (d : Dis) : Prop := validS l = true ∧ vDst t = true ∧ okM d.metric = true ∧ d.metric ≠ 65535
instance (l : List Src) (t : Dst) (d : Dis) : Decidable (recGood l t d) := inferInstanceAs (Decidable (_ ∧ _))
def recD (l : List Src) (now : Int) (t : Dst) (d : Dis) : Dis := if fndS l t = true ∧ (gt l (atS l t)).upto > now then lowD d (gt l (atS l t)).best else d
def recX (l : List Src) (now : Int) (t : Dst) (d : Dis) : Src := ⟨t, recD l now t d, min (now + 20) 1099511627776⟩
/-- sources.Record: the list, the error -/
def recM (l : List Src) (now : Int) (t : Dst) (d : Dis) : List Src × Int :=
  if recGood l t d then
    (if 0 ≤ now ∧ now ≤ 1099511627776 then
      (if fndS l t = true then (l.set (atS l t) (recX l now t d), 0)
      else if l.length ≥ 256 then ([], 10)
      else (l.take (atS l t) ++ [recX l now t d] ++ l.drop (atS l t), 0))
    else ([], 2))
  else ([], 1)
theorem lst_ins {α : Type} {f : α → SV} {l : List α} {a : Nat} {z : SV} {x : α} (ha : a ≤ l.length) : ((lst f l).take a ++ [z] ++ (lst f l).drop a).set a (f x) = lst f (l.take a ++ [x] ++ l.drop a) := by
  simp only [lst, ← List.map_take, ← List.map_drop]
  have h1 : (List.map f (List.take a l)).length = a := by simp [ha]
  rw [List.append_assoc, List.set_append_right _ _ (by omega), h1, Nat.sub_self]
  simp
theorem lst_ins' {α : Type} {f : α → SV} {l : List α} {a : Nat} {z : SV} {x : α} (ha : a ≤ l.length) : (lst f (l.take a) ++ [z] ++ lst f (l.drop a)).set a (f x) = lst f (l.take a ++ [x] ++ l.drop a) := by
  have := lst_ins (f := f) (z := z) (x := x) ha
  simpa only [lst, List.map_take, List.map_drop] using this
theorem ins_get {α : Type} {l : List α} {a : Nat} {z : α} (ha : a ≤ l.length) : (l.take a ++ [z] ++ l.drop a)[a]? = some z := by
  have h1 : (List.take a l).length = a := by simp [ha]
  rw [List.append_assoc, List.getElem?_append_right (by omega), h1, Nat.sub_self]
  rfl
theorem k_Record (l : List Src) (g : Tg) (now : Int) (t : Dst) (d : Dis) (hl : l.length ≤ 100000) :
    Con Try.prog 19 [.fs g 38 (lst srcV l), int now, dstV t, disV d] [] (.tup [.ov 38 0 0 (recM l now t d).1.length, int (recM l now t d).2]) [.arr none 38 (lst srcV (recM l now t d).1)] := by
  refine spec_of_run ttok mixed (T0 := 4612882296742092751) (ts := [.tmp 8, .tmp 9]) 80 rfl rfl rfl rfl (by simp) rfl ?_
  conv => whnf
  by_cases h1 : recGood l t d
  · by_cases h2 : 0 ≤ now ∧ now ≤ 1099511627776
    · have hv := h1.1
      have hS := k_search l g t (by omega) hv
      have hle : atS l t ≤ l.length := atK_le l t
      have hfi : fndS l t = true ↔ atS l t < l.length ∧ (gt l (atS l t)).to = t := fndK_iff cmpT_ok
      have hlen := okL_len hv
      simp only [recM, if_pos h1, if_pos h2]
      obtain ⟨x, hx⟩ : ∃ x, x = recX l now t d := ⟨_, rfl⟩
      rw [← hx]
      unfold recX recD at hx
      generalize atS l t = a at *
      generalize fndS l t = f at *
      cases f
      · simp only [Bool.false_eq_true, false_and, if_false] at hx ⊢
        by_cases h3 : l.length ≥ 256
        · rw [if_pos h3]
          repeat' (first | with_reducible apply True.intro | ((first | (with_reducible first | apply Nm.set _ (int_mk _) | apply Nm.snoc _ (int_mk _) | apply Nm.rep _ (int_mk _) | apply Nm.set _ (bool_mk _) | apply Nm.snoc _ (bool_mk _) | apply Nm.rep _ (bool_mk _) | apply Nm.set _ (rfl) | apply Nm.snoc _ (rfl) | apply Nm.rep _ (rfl)) | ((with_reducible apply Nm.mk); focus ((try simp only [lns, ipRows_take]); exact rfl)) | ((with_reducible first | apply Wr.i64 | apply Wr.u8 | apply Wr.u16 | apply Wr.u32 | apply Wr.u64); focus omega) | ((with_reducible apply Need.mk); focus first | omega | (simp only [lns, ipRows_take]; omega) | exact List.cons_ne_nil _ _ | exact CleanP.nil rfl | exact CleanP.cell rfl rfl | exact CleanP.lst rfl (fun _ => rfl) | kernel_rfl | (dsimp only; omega) | (unfold roomOK; simp only [lns, ipRows_take]; omega)) | ((with_reducible apply Elem.lst); focus first | omega | (simp only [lns, ipRows_take]; omega)) | (apply CallN.mk (k_sValid l g (by omega))) | (apply CallN.mk (k_ValidTo _)) | (apply CallN.mk (k_seqValid _)) | (apply CallN.mk (k_isTime _)) | (apply CallN.mk (hS)) | (with_reducible first | apply Bif.T | apply Bif.F) | ((with_reducible first | apply Bif.dec | apply Bif.beq | apply Bif.bne) <;> intro h <;> (try simp only [lns, ipRows_take] at h) <;> (try first | (exfalso; omega) | (exact absurd True.intro h) | (simp_all [recGood]; done))) | (with_reducible first | apply Bif.not | apply Bif.and | apply Bif.or) | ((with_reducible apply Bif.mk) <;> intro h <;> (try first | (exfalso; omega) | (exact absurd True.intro h) | (simp_all [recGood]; done))) | (with_reducible apply Same.rfl) | (apply Same.int; focus first | rfl | omega | (dsimp only; omega) | (simp only [lns, ipRows_take]; omega)) | (apply Same.bool; focus (with_reducible rfl)) | (apply Same.ov; (focus first | rfl | omega | (simp only [lns, ipRows_take]; omega)); focus first | rfl | omega | (simp only [lns, ipRows_take]; first | done | omega)) | ((with_reducible apply Same.mk); focus first | omega | (simp only [lns, ipRows_take]; omega)) | (apply Same.rfl) | (with_reducible first | apply Alt.l | apply Sl3.l | apply Cut.l | apply Turn.l | apply GiveN.lend)) <;> conv => whnf) | fail)
        · rw [if_neg h3]
          have hI := k_Insert_Src (lst srcV l) (srcV src0) (some 1) a (by rw [lst_len]; exact hle) (by rw [lst_len]; omega)
          rw [lst_len] at hI
          have eL : l.length + 1 = (l.take a ++ [x] ++ l.drop a).length := by simp; omega
          rw [eL] at hI
          repeat' (first | with_reducible apply True.intro | ((with_reducible apply GiveN.mk [0, 2]); (conv => whnf); (apply CallN.mk hI); (conv => whnf)) | ((apply Elem.mk _ (ins_get (by rw [lst_len]; exact hle))); (conv => whnf)) | ((with_reducible apply Same.mk); (focus (subst hx; exact lst_ins' (f := srcV) (x := ⟨t, d, min (now + 20) 1099511627776⟩) hle)); (conv => whnf)) | ((first | (with_reducible first | apply Nm.set _ (int_mk _) | apply Nm.snoc _ (int_mk _) | apply Nm.rep _ (int_mk _) | apply Nm.set _ (bool_mk _) | apply Nm.snoc _ (bool_mk _) | apply Nm.rep _ (bool_mk _) | apply Nm.set _ (rfl) | apply Nm.snoc _ (rfl) | apply Nm.rep _ (rfl)) | ((with_reducible apply Nm.mk); focus ((try simp only [lns, ipRows_take]); exact rfl)) | ((with_reducible first | apply Wr.i64 | apply Wr.u8 | apply Wr.u16 | apply Wr.u32 | apply Wr.u64); focus omega) | ((with_reducible apply Need.mk); focus first | omega | (simp only [lns, ipRows_take]; omega) | exact List.cons_ne_nil _ _ | exact CleanP.nil rfl | exact CleanP.cell rfl rfl | exact CleanP.lst rfl (fun _ => rfl) | kernel_rfl | (dsimp only; omega) | (unfold roomOK; simp only [lns, ipRows_take]; omega)) | ((with_reducible apply Elem.lst); focus first | omega | (simp only [lns, ipRows_take]; omega)) | (apply CallN.mk (k_sValid l g (by omega))) | (apply CallN.mk (k_ValidTo _)) | (apply CallN.mk (k_seqValid _)) | (apply CallN.mk (k_isTime _)) | (apply CallN.mk (hS)) | (apply CallN.mk (k_Clone_Src l g (by omega))) | (with_reducible first | apply Bif.T | apply Bif.F) | ((with_reducible first | apply Bif.dec | apply Bif.beq | apply Bif.bne) <;> intro h <;> (try simp only [lns, ipRows_take] at h) <;> (try first | (exfalso; omega) | (exact absurd True.intro h) | (simp_all [recGood]; done))) | (with_reducible first | apply Bif.not | apply Bif.and | apply Bif.or) | ((with_reducible apply Bif.mk) <;> intro h <;> (try first | (exfalso; omega) | (exact absurd True.intro h) | (simp_all [recGood]; done))) | (with_reducible apply Same.rfl) | (apply Same.int; focus first | rfl | omega | (dsimp only; omega) | (simp only [lns, ipRows_take]; omega)) | (apply Same.bool; focus (with_reducible rfl)) | (apply Same.ov; (focus first | rfl | omega | (simp only [lns, ipRows_take]; omega)); focus first | rfl | omega | (simp only [lns, ipRows_take]; first | done | omega)) | ((with_reducible apply Same.mk); focus first | omega | (simp only [lns, ipRows_take]; omega)) | (apply Same.rfl) | (with_reducible first | apply Alt.l | apply Sl3.l | apply Cut.l | apply Turn.l | apply GiveN.lend)) <;> conv => whnf) | fail)
      · have hlt := (hfi.1 rfl).1
        simp only [if_true, true_and] at hx ⊢
        by_cases h3 : (gt l a).upto > now
        · rw [if_pos h3] at hx
          repeat' (first | with_reducible apply True.intro | ((with_reducible apply Same.mk); (focus (first | (simp only [List.length_set]; done) | (rw [hx]; done) | fail)); (conv => whnf)) | ((first | (with_reducible first | apply Nm.set _ (src_mk _ _ _) | apply Nm.snoc _ (src_mk _ _ _) | apply Nm.rep _ (src_mk _ _ _) | apply Nm.set _ (int_mk _) | apply Nm.snoc _ (int_mk _) | apply Nm.rep _ (int_mk _) | apply Nm.set _ (bool_mk _) | apply Nm.snoc _ (bool_mk _) | apply Nm.rep _ (bool_mk _) | apply Nm.set _ (rfl) | apply Nm.snoc _ (rfl) | apply Nm.rep _ (rfl)) | ((with_reducible apply Nm.mk); focus ((try simp only [lns, ipRows_take]); exact rfl)) | ((with_reducible first | apply Wr.i64 | apply Wr.u8 | apply Wr.u16 | apply Wr.u32 | apply Wr.u64); focus omega) | ((with_reducible apply Need.mk); focus first | omega | (simp only [lns, ipRows_take]; omega) | exact List.cons_ne_nil _ _ | exact CleanP.nil rfl | exact CleanP.cell rfl rfl | exact CleanP.lst rfl (fun _ => rfl) | kernel_rfl | (dsimp only; omega) | (unfold roomOK; simp only [lns, ipRows_take]; omega)) | ((with_reducible apply Elem.lst); focus first | omega | (simp only [lns, ipRows_take]; omega)) | (apply CallN.mk (k_sValid l g (by omega))) | (apply CallN.mk (k_ValidTo _)) | (apply CallN.mk (k_seqValid _)) | (apply CallN.mk (k_isTime _)) | (apply CallN.mk (hS)) | (apply CallN.mk (k_Clone_Src l g (by omega))) | (apply CallN.mk (k_Lower _ _)) | (with_reducible first | apply Bif.T | apply Bif.F) | ((with_reducible first | apply Bif.dec | apply Bif.beq | apply Bif.bne) <;> intro h <;> (try simp only [lns, ipRows_take] at h) <;> (try first | (exfalso; omega) | (exact absurd True.intro h) | (simp_all [recGood]; done))) | (with_reducible first | apply Bif.not | apply Bif.and | apply Bif.or) | ((with_reducible apply Bif.mk) <;> intro h <;> (try first | (exfalso; omega) | (exact absurd True.intro h) | (simp_all [recGood]; done))) | (with_reducible apply Same.rfl) | (apply Same.int; focus first | rfl | omega | (dsimp only; omega) | (simp only [lns, ipRows_take]; omega)) | (apply Same.bool; focus (with_reducible rfl)) | (apply Same.ov; (focus first | rfl | omega | (simp only [lns, ipRows_take]; omega)); focus first | rfl | omega | (simp only [lns, ipRows_take]; first | done | omega)) | ((with_reducible apply Same.mk); focus first | omega | (simp only [lns, ipRows_take]; omega)) | (apply Same.rfl) | (with_reducible first | apply Alt.l | apply Sl3.l | apply Cut.l | apply Turn.l | apply GiveN.lend)) <;> conv => whnf) | fail)
        · rw [if_neg h3] at hx
          repeat' (first | with_reducible apply True.intro | ((with_reducible apply Same.mk); (focus (first | (simp only [List.length_set]; done) | (rw [hx]; done) | fail)); (conv => whnf)) | ((first | (with_reducible first | apply Nm.set _ (src_mk _ _ _) | apply Nm.snoc _ (src_mk _ _ _) | apply Nm.rep _ (src_mk _ _ _) | apply Nm.set _ (int_mk _) | apply Nm.snoc _ (int_mk _) | apply Nm.rep _ (int_mk _) | apply Nm.set _ (bool_mk _) | apply Nm.snoc _ (bool_mk _) | apply Nm.rep _ (bool_mk _) | apply Nm.set _ (rfl) | apply Nm.snoc _ (rfl) | apply Nm.rep _ (rfl)) | ((with_reducible apply Nm.mk); focus ((try simp only [lns, ipRows_take]); exact rfl)) | ((with_reducible first | apply Wr.i64 | apply Wr.u8 | apply Wr.u16 | apply Wr.u32 | apply Wr.u64); focus omega) | ((with_reducible apply Need.mk); focus first | omega | (simp only [lns, ipRows_take]; omega) | exact List.cons_ne_nil _ _ | exact CleanP.nil rfl | exact CleanP.cell rfl rfl | exact CleanP.lst rfl (fun _ => rfl) | kernel_rfl | (dsimp only; omega) | (unfold roomOK; simp only [lns, ipRows_take]; omega)) | ((with_reducible apply Elem.lst); focus first | omega | (simp only [lns, ipRows_take]; omega)) | (apply CallN.mk (k_sValid l g (by omega))) | (apply CallN.mk (k_ValidTo _)) | (apply CallN.mk (k_seqValid _)) | (apply CallN.mk (k_isTime _)) | (apply CallN.mk (hS)) | (apply CallN.mk (k_Clone_Src l g (by omega))) | (apply CallN.mk (k_Lower _ _)) | (with_reducible first | apply Bif.T | apply Bif.F) | ((with_reducible first | apply Bif.dec | apply Bif.beq | apply Bif.bne) <;> intro h <;> (try simp only [lns, ipRows_take] at h) <;> (try first | (exfalso; omega) | (exact absurd True.intro h) | (simp_all [recGood]; done))) | (with_reducible first | apply Bif.not | apply Bif.and | apply Bif.or) | ((with_reducible apply Bif.mk) <;> intro h <;> (try first | (exfalso; omega) | (exact absurd True.intro h) | (simp_all [recGood]; done))) | (with_reducible apply Same.rfl) | (apply Same.int; focus first | rfl | omega | (dsimp only; omega) | (simp only [lns, ipRows_take]; omega)) | (apply Same.bool; focus (with_reducible rfl)) | (apply Same.ov; (focus first | rfl | omega | (simp only [lns, ipRows_take]; omega)); focus first | rfl | omega | (simp only [lns, ipRows_take]; first | done | omega)) | ((with_reducible apply Same.mk); focus first | omega | (simp only [lns, ipRows_take]; omega)) | (apply Same.rfl) | (with_reducible first | apply Alt.l | apply Sl3.l | apply Cut.l | apply Turn.l | apply GiveN.lend)) <;> conv => whnf) | fail)
    · simp only [recM, if_pos h1, if_neg h2]
      repeat' (first | with_reducible apply True.intro | ((first | (with_reducible first | apply Nm.set _ (int_mk _) | apply Nm.snoc _ (int_mk _) | apply Nm.rep _ (int_mk _) | apply Nm.set _ (bool_mk _) | apply Nm.snoc _ (bool_mk _) | apply Nm.rep _ (bool_mk _) | apply Nm.set _ (rfl) | apply Nm.snoc _ (rfl) | apply Nm.rep _ (rfl)) | ((with_reducible apply Nm.mk); focus ((try simp only [lns, ipRows_take]); exact rfl)) | ((with_reducible first | apply Wr.i64 | apply Wr.u8 | apply Wr.u16 | apply Wr.u32 | apply Wr.u64); focus omega) | ((with_reducible apply Need.mk); focus first | omega | (simp only [lns, ipRows_take]; omega) | exact List.cons_ne_nil _ _ | exact CleanP.nil rfl | exact CleanP.cell rfl rfl | exact CleanP.lst rfl (fun _ => rfl) | kernel_rfl | (dsimp only; omega) | (unfold roomOK; simp only [lns, ipRows_take]; omega)) | ((with_reducible apply Elem.lst); focus first | omega | (simp only [lns, ipRows_take]; omega)) | (apply CallN.mk (k_sValid l g (by omega))) | (apply CallN.mk (k_ValidTo _)) | (apply CallN.mk (k_seqValid _)) | (apply CallN.mk (k_isTime _)) | (with_reducible first | apply Bif.T | apply Bif.F) | ((with_reducible first | apply Bif.dec | apply Bif.beq | apply Bif.bne) <;> intro h <;> (try simp only [lns, ipRows_take] at h) <;> (try first | (exfalso; omega) | (exact absurd True.intro h) | (simp_all [recGood]; done))) | (with_reducible first | apply Bif.not | apply Bif.and | apply Bif.or) | ((with_reducible apply Bif.mk) <;> intro h <;> (try first | (exfalso; omega) | (exact absurd True.intro h) | (simp_all [recGood]; done))) | (with_reducible apply Same.rfl) | (apply Same.int; focus first | rfl | omega | (dsimp only; omega) | (simp only [lns, ipRows_take]; omega)) | (apply Same.bool; focus (with_reducible rfl)) | (apply Same.ov; (focus first | rfl | omega | (simp only [lns, ipRows_take]; omega)); focus first | rfl | omega | (simp only [lns, ipRows_take]; first | done | omega)) | ((with_reducible apply Same.mk); focus first | omega | (simp only [lns, ipRows_take]; omega)) | (apply Same.rfl) | (with_reducible first | apply Alt.l | apply Sl3.l | apply Cut.l | apply Turn.l | apply GiveN.lend)) <;> conv => whnf) | fail)
  · simp only [recM, if_neg h1]
    repeat' (first | with_reducible apply True.intro | ((first | (with_reducible first | apply Nm.set _ (int_mk _) | apply Nm.snoc _ (int_mk _) | apply Nm.rep _ (int_mk _) | apply Nm.set _ (bool_mk _) | apply Nm.snoc _ (bool_mk _) | apply Nm.rep _ (bool_mk _) | apply Nm.set _ (rfl) | apply Nm.snoc _ (rfl) | apply Nm.rep _ (rfl)) | ((with_reducible apply Nm.mk); focus ((try simp only [lns, ipRows_take]); exact rfl)) | ((with_reducible first | apply Wr.i64 | apply Wr.u8 | apply Wr.u16 | apply Wr.u32 | apply Wr.u64); focus omega) | ((with_reducible apply Need.mk); focus first | omega | (simp only [lns, ipRows_take]; omega) | exact List.cons_ne_nil _ _ | exact CleanP.nil rfl | exact CleanP.cell rfl rfl | exact CleanP.lst rfl (fun _ => rfl) | kernel_rfl | (dsimp only; omega) | (unfold roomOK; simp only [lns, ipRows_take]; omega)) | ((with_reducible apply Elem.lst); focus first | omega | (simp only [lns, ipRows_take]; omega)) | (apply CallN.mk (k_sValid l g (by omega))) | (apply CallN.mk (k_ValidTo _)) | (apply CallN.mk (k_seqValid _)) | (apply CallN.mk (k_isTime _)) | (with_reducible first | apply Bif.T | apply Bif.F) | ((with_reducible first | apply Bif.dec | apply Bif.beq | apply Bif.bne) <;> intro h <;> (try simp only [lns, ipRows_take] at h) <;> (try first | (exfalso; omega) | (exact absurd True.intro h) | (simp_all [recGood]; done))) | (with_reducible first | apply Bif.not | apply Bif.and | apply Bif.or) | ((with_reducible apply Bif.mk) <;> intro h <;> (try first | (exfalso; omega) | (exact absurd True.intro h) | (simp_all [recGood]; done))) | (with_reducible apply Same.rfl) | (apply Same.int; focus first | rfl | omega | (dsimp only; omega) | (simp only [lns, ipRows_take]; omega)) | (apply Same.bool; focus (with_reducible rfl)) | (apply Same.ov; (focus first | rfl | omega | (simp only [lns, ipRows_take]; omega)); focus first | rfl | omega | (simp only [lns, ipRows_take]; first | done | omega)) | ((with_reducible apply Same.mk); focus first | omega | (simp only [lns, ipRows_take]; omega)) | (apply Same.rfl) | (with_reducible first | apply Alt.l | apply Sl3.l | apply Cut.l | apply Turn.l | apply GiveN.lend)) <;> conv => whnf) | fail)
/-! What a record leaves -/
theorem srcOK_of {l : List Src} {i : Nat} (h : validS l = true) (hi : i < l.length) : srcOK (gt l i) = true := okL_ok h hi
theorem lowD_ok {a b : Dis} (ha : okM a.metric = true ∧ a.metric ≠ 65535) (hb : okM b.metric = true ∧ b.metric ≠ 65535) : okM (lowD a b).metric = true ∧ (lowD a b).metric ≠ 65535 := by
  unfold lowD; split
  · exact ha
  · exact hb
theorem recX_ok {l : List Src} {now : Int} {t : Dst} {d : Dis} (h : recGood l t d) (hn : 0 ≤ now ∧ now ≤ 1099511627776) : srcOK (recX l now t d) = true := by
  obtain ⟨h1, h2, h3, h4⟩ := h
  have hd : okM (recD l now t d).metric = true ∧ (recD l now t d).metric ≠ 65535 := by
    unfold recD
    split
    · rename_i hf
      have := (fndK_iff cmpT_ok).1 hf.1
      have := srcOK_iff.1 (srcOK_of h1 this.1)
      exact lowD_ok ⟨h3, h4⟩ ⟨this.2.1, this.2.2.1⟩
    · exact ⟨h3, h4⟩
  exact srcOK_iff.2 ⟨h2, hd.1, hd.2, by show 0 ≤ min (now + 20) 1099511627776; omega, by show min (now + 20) 1099511627776 ≤ 1099511627776; omega⟩
theorem recM_valid {l : List Src} {now : Int} {t : Dst} {d : Dis} (h : (recM l now t d).2 = 0) : validS (recM l now t d).1 = true := by
  unfold recM at h ⊢
  by_cases h1 : recGood l t d
  · by_cases h2 : 0 ≤ now ∧ now ≤ 1099511627776
    · have hx := recX_ok h1 h2
      cases hf : fndS l t
      · by_cases h3 : l.length ≥ 256
        · simp [h1, h2, hf, h3] at h
        · simp only [h1, h2, hf, h3, if_true, if_false, Bool.false_eq_true, and_self]
          exact okL_ins cmpT_ok h1.1 (x := recX l now t d) hf hx (by omega)
      · simp only [h1, h2, hf, if_true, and_self]
        exact okL_set cmpT_ok h1.1 (x := recX l now t d) hf hx
    · simp only [if_pos h1, if_neg h2] at h; cases h
  · simp only [if_neg h1] at h; cases h
theorem recM_len {l : List Src} {now : Int} {t : Dst} {d : Dis} : (recM l now t d).1.length ≤ 256 := by
  by_cases h : (recM l now t d).2 = 0
  · exact okL_len (recM_valid h)
  · unfold recM at h ⊢
    repeat' split
    all_goals simp_all
theorem find_key {l : List Src} {now : Int} {t : Dst} (hv : validS l = true) : l.find? (fndP now t) = if fndS l t = true ∧ (gt l (atS l t)).upto > now then some (gt l (atS l t)) else none := by
  split
  · rename_i h
    obtain ⟨h1, h2⟩ : atS l t < l.length ∧ (gt l (atS l t)).to = t := (fndK_iff cmpT_ok).1 h.1
    refine find_at h1 (by simp only [fndP, decide_eq_true_eq]; exact ⟨h2, h.2⟩) fun j hj => ?_
    simp only [fndP, decide_eq_false_iff_not]
    rintro ⟨g1, _⟩
    have : j = atS l t := key_other cmpT_ok hv (t := t) (i := j) (by omega) g1
    omega
  · rename_i h
    refine find_none fun j hj => ?_
    simp only [fndP, decide_eq_false_iff_not]
    rintro ⟨g1, g2⟩
    have : j = atS l t := key_other cmpT_ok hv (t := t) (i := j) hj g1
    subst this
    exact h ⟨(fndK_iff cmpT_ok).2 ⟨hj, g1⟩, g2⟩
end Go.Fw
