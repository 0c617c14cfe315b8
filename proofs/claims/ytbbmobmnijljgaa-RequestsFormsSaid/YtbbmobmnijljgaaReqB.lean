/- Requests: Add. -/
import Derived.Test.YtbbmobmnijljgaaReqA
namespace Go.Fw
open Go.Proofs
set_option maxHeartbeats 4000000
theorem k_qsearch1 (t : Dst) (a : Req) : Con Try.prog 55 [reqV a, dstV t] [] (int (cmpT a.to t)) [] := by
  refine spec_of_run ttok mixed (T0 := 31) (ts := [.tmp 4]) 9 rfl rfl rfl rfl (by simp) rfl ?_
  conv => whnf
  repeat' (first | with_reducible apply True.intro | ((first | (with_reducible first | apply Nm.set _ (int_mk _) | apply Nm.snoc _ (int_mk _) | apply Nm.rep _ (int_mk _) | apply Nm.set _ (bool_mk _) | apply Nm.snoc _ (bool_mk _) | apply Nm.rep _ (bool_mk _) | apply Nm.set _ (rfl) | apply Nm.snoc _ (rfl) | apply Nm.rep _ (rfl)) | ((with_reducible apply Nm.mk); focus ((try simp only [lns, ipRows_take]); exact rfl)) | ((with_reducible first | apply Wr.i64 | apply Wr.u8 | apply Wr.u16 | apply Wr.u32 | apply Wr.u64); focus omega) | ((with_reducible apply Need.mk); focus first | omega | (simp only [lns, ipRows_take]; omega) | exact List.cons_ne_nil _ _ | exact CleanP.nil rfl | exact CleanP.cell rfl rfl | exact CleanP.lst rfl (fun _ => rfl) | exact CleanP.lst2 rfl (fun _ => rfl) (fun _ => rfl) | kernel_rfl | (dsimp only; omega) | (unfold roomOK; simp only [lns, ipRows_take]; omega)) | ((with_reducible apply Elem.lst); focus first | omega | (simp only [lns, ipRows_take]; omega)) | (apply CallN.mk (k_srcCompare _ _)) | (with_reducible first | apply Bif.T | apply Bif.F) | ((with_reducible first | apply Bif.dec | apply Bif.beq | apply Bif.bne) <;> intro h <;> (try simp only [lns, ipRows_take] at h) <;> (try first | (exfalso; omega) | (exact absurd True.intro h))) | (with_reducible first | apply Bif.not | apply Bif.and | apply Bif.or) | ((with_reducible apply Bif.mk) <;> intro h <;> (try first | (exfalso; omega) | (exact absurd True.intro h))) | (with_reducible apply Same.rfl) | (apply Same.int; focus first | rfl | omega | (dsimp only; omega) | (simp only [lns, ipRows_take]; omega)) | (apply Same.bool; focus (with_reducible rfl)) | (apply Same.ov; (focus first | rfl | omega | (simp only [lns, ipRows_take]; omega)); focus first | rfl | omega | (simp only [lns, ipRows_take]; first | done | omega)) | ((with_reducible apply Same.mk); focus first | omega | (simp only [lns, ipRows_take]; omega)) | (apply Same.rfl) | (with_reducible first | apply Alt.l | apply Sl3.l | apply Cut.l | apply Turn.l | apply GiveN.lend)) <;> conv => whnf) | fail)
abbrev atQ (l : List Req) (t : Dst) : Nat := atK cmpT Req.to l t
abbrev fndQ (l : List Req) (t : Dst) : Bool := fndK cmpT Req.to l t
theorem k_qsearch (l : List Req) (g : Tg) (t : Dst) (hl : l.length ≤ 1000000) (hv : validQ l = true) : Con Try.prog 30 [.fs g 40 (lst reqV l), dstV t] [] (.tup [int (atQ l t), bool (fndQ l t)]) [] := by
  have hB := k_BSearch_Req 55 t (fun s => cmpT s.to t) (k_qsearch1 t) l g hl (mono_key cmpT_ok hv)
  refine spec_of_run ttok mixed (T0 := 59) (ts := [.tmp 4, .tmp 5]) 11 rfl rfl rfl rfl (by simp) rfl ?_
  conv => whnf
  repeat' (first | with_reducible apply True.intro | ((first | (with_reducible first | apply Nm.set _ (int_mk _) | apply Nm.snoc _ (int_mk _) | apply Nm.rep _ (int_mk _) | apply Nm.set _ (bool_mk _) | apply Nm.snoc _ (bool_mk _) | apply Nm.rep _ (bool_mk _) | apply Nm.set _ (rfl) | apply Nm.snoc _ (rfl) | apply Nm.rep _ (rfl)) | ((with_reducible apply Nm.mk); focus ((try simp only [lns, ipRows_take]); exact rfl)) | ((with_reducible first | apply Wr.i64 | apply Wr.u8 | apply Wr.u16 | apply Wr.u32 | apply Wr.u64); focus omega) | ((with_reducible apply Need.mk); focus first | omega | (simp only [lns, ipRows_take]; omega) | exact List.cons_ne_nil _ _ | exact CleanP.nil rfl | exact CleanP.cell rfl rfl | exact CleanP.lst rfl (fun _ => rfl) | exact CleanP.lst2 rfl (fun _ => rfl) (fun _ => rfl) | kernel_rfl | (dsimp only; omega) | (unfold roomOK; simp only [lns, ipRows_take]; omega)) | ((with_reducible apply Elem.lst); focus first | omega | (simp only [lns, ipRows_take]; omega)) | (apply CallN.mk (hB)) | (with_reducible first | apply Bif.T | apply Bif.F) | ((with_reducible first | apply Bif.dec | apply Bif.beq | apply Bif.bne) <;> intro h <;> (try simp only [lns, ipRows_take] at h) <;> (try first | (exfalso; omega) | (exact absurd True.intro h))) | (with_reducible first | apply Bif.not | apply Bif.and | apply Bif.or) | ((with_reducible apply Bif.mk) <;> intro h <;> (try first | (exfalso; omega) | (exact absurd True.intro h))) | (with_reducible apply Same.rfl) | (apply Same.int; focus first | rfl | omega | (dsimp only; omega) | (simp only [lns, ipRows_take]; omega)) | (apply Same.bool; focus (with_reducible rfl)) | (apply Same.ov; (focus first | rfl | omega | (simp only [lns, ipRows_take]; omega)); focus first | rfl | omega | (simp only [lns, ipRows_take]; first | done | omega)) | ((with_reducible apply Same.mk); focus first | omega | (simp only [lns, ipRows_take]; omega)) | (apply Same.rfl) | (with_reducible first | apply Alt.l | apply Sl3.l | apply Cut.l | apply Turn.l | apply GiveN.lend)) <;> conv => whnf) | fail)
def addGood (l : List Req) (t : Dst) : Prop := validQ l = true ∧ vDst t = true
def addRng (now hops : Int) : Prop := (0 ≤ now ∧ now ≤ 1099511627776) ∧ 1 ≤ hops ∧ hops ≤ 32
instance (l : List Req) (t : Dst) : Decidable (addGood l t) := inferInstanceAs (Decidable (_ ∧ _))
instance (now hops : Int) : Decidable (addRng now hops) := inferInstanceAs (Decidable (_ ∧ _))
def addX (now : Int) (t : Dst) (seq hops who : Int) : Req := ⟨t, seq, hops, who, min (now + 3) 1099511627776, 3⟩
/-- requests.Add: the list, whether the request is new, the error -/
def addM (l : List Req) (now : Int) (t : Dst) (seq hops who : Int) : List Req × Bool × Int :=
  if addGood l t then
    (if addRng now hops then
      (if fndQ l t = true then (if newer seq (gt l (atQ l t)).seq = true then (l.set (atQ l t) (addX now t seq hops who), true, 0) else (l, false, 0))
      else if l.length ≥ 64 then ([], false, 10)
      else (l.take (atQ l t) ++ [addX now t seq hops who] ++ l.drop (atQ l t), true, 0))
    else ([], false, 2))
  else ([], false, 1)
def seqs (l : List Req) : Prop := ∀ r ∈ l, 0 ≤ r.seq ∧ r.seq ≤ 65535
theorem newer_not {a b : Int} (ha : 0 ≤ a ∧ a ≤ 65535) (hb : 0 ≤ b ∧ b ≤ 65535) : newer a b = false ↔ b = a ∨ newer b a = true := by
  constructor
  · intro h
    by_cases hn : newer b a = true
    · exact .inr hn
    · exact .inl (newer_two (by omega) (by omega) (by rw [h]; simpa using hn))
  · intro h
    rcases h with h | h
    · rw [h, newer_self]
    · cases hn : newer a b
      · rfl
      · have := newer_two (a := a) (b := b) (by omega) (by omega) (by rw [h, hn])
        rw [this, newer_self] at h; cases h
theorem req_mk2 (t : Dst) (a b c d e : Int) : SV.agg [dstV t, .v (.int .u16 a), int b, .v (.int .u64 c), int d, .v (.int .i64 e)] = reqV ⟨t, a, b, c, d, e⟩ := rfl
theorem k_Add (l : List Req) (g : Tg) (now : Int) (t : Dst) (seq hops who : Int) (hl : l.length ≤ 100000) (hq : seqs l) (hs : 0 ≤ seq ∧ seq ≤ 65535) :
    Con Try.prog 12 [.fs g 40 (lst reqV l), int now, dstV t, .v (.int .u16 seq), int hops, .v (.int .u64 who)] []
      (.tup [.ov 40 0 0 (addM l now t seq hops who).1.length, bool (addM l now t seq hops who).2.1, int (addM l now t seq hops who).2.2]) [.arr none 40 (lst reqV (addM l now t seq hops who).1)] := by
  refine spec_of_run ttok mixed (T0 := 11815139579279721099583) (ts := [.tmp 12, .tmp 13, .tmp 14]) 90 rfl rfl rfl rfl (by simp) rfl ?_
  conv => whnf
  by_cases h1 : addGood l t
  · by_cases h2 : addRng now hops
    · obtain ⟨hv, ht⟩ := h1
      obtain ⟨h3, h4, h5⟩ := h2
      have hS := k_qsearch l g t (by omega) hv
      have hle : atQ l t ≤ l.length := atK_le l t
      have hfi : fndQ l t = true ↔ atQ l t < l.length ∧ (gt l (atQ l t)).to = t := fndK_iff cmpT_ok
      have hlen := okL_len hv
      simp only [addM, if_pos (show addGood l t from ⟨hv, ht⟩), if_pos (show addRng now hops from ⟨h3, h4, h5⟩)]
      obtain ⟨x, hx⟩ : ∃ x, x = addX now t seq hops who := ⟨_, rfl⟩
      rw [← hx]
      unfold addX at hx
      generalize atQ l t = a at *
      generalize fndQ l t = f at *
      cases f
      · simp only [Bool.false_eq_true, if_false]
        by_cases h6 : l.length ≥ 64
        · rw [if_pos h6]
          repeat' (first | with_reducible apply True.intro | ((first | (with_reducible first | apply Nm.set _ (int_mk _) | apply Nm.snoc _ (int_mk _) | apply Nm.rep _ (int_mk _) | apply Nm.set _ (bool_mk _) | apply Nm.snoc _ (bool_mk _) | apply Nm.rep _ (bool_mk _) | apply Nm.set _ (rfl) | apply Nm.snoc _ (rfl) | apply Nm.rep _ (rfl)) | ((with_reducible apply Nm.mk); focus ((try simp only [lns, ipRows_take]); exact rfl)) | ((with_reducible first | apply Wr.i64 | apply Wr.u8 | apply Wr.u16 | apply Wr.u32 | apply Wr.u64); focus omega) | ((with_reducible apply Need.mk); focus first | omega | (simp only [lns, ipRows_take]; omega) | exact List.cons_ne_nil _ _ | exact CleanP.nil rfl | exact CleanP.cell rfl rfl | exact CleanP.lst rfl (fun _ => rfl) | exact CleanP.lst2 rfl (fun _ => rfl) (fun _ => rfl) | kernel_rfl | (dsimp only; omega) | (unfold roomOK; simp only [lns, ipRows_take]; omega)) | ((with_reducible apply Elem.lst); focus first | omega | (simp only [lns, ipRows_take]; omega)) | (apply CallN.mk (k_qValid l g (by omega))) | (apply CallN.mk (k_ValidTo _)) | (apply CallN.mk (k_reqIsTime _)) | (apply CallN.mk (hS)) | (apply CallN.mk (k_Clone_Req l g (by omega))) | (apply CallN.mk (k_reqLater _ _ (by omega) (by omega))) | (with_reducible first | apply Bif.T | apply Bif.F) | ((with_reducible first | apply Bif.dec | apply Bif.beq | apply Bif.bne) <;> intro h <;> (try simp only [lns, ipRows_take] at h) <;> (try first | (exfalso; omega) | (exact absurd True.intro h) | (simp_all; done))) | (with_reducible first | apply Bif.not | apply Bif.and | apply Bif.or) | ((with_reducible apply Bif.mk) <;> intro h <;> (try first | (exfalso; omega) | (exact absurd True.intro h) | (simp_all; done))) | (with_reducible apply Same.rfl) | (apply Same.int; focus first | rfl | omega | (dsimp only; omega) | (simp only [lns, ipRows_take]; omega)) | (apply Same.bool; focus (with_reducible rfl)) | (apply Same.ov; (focus first | rfl | omega | (simp only [lns, ipRows_take]; omega)); focus first | rfl | omega | (simp only [lns, ipRows_take]; first | done | omega)) | ((with_reducible apply Same.mk); focus first | omega | (simp only [lns, ipRows_take]; omega)) | (apply Same.rfl) | (with_reducible first | apply Alt.l | apply Sl3.l | apply Cut.l | apply Turn.l | apply GiveN.lend)) <;> conv => whnf) | fail)
        · rw [if_neg h6]
          have hI := k_Insert_Req (lst reqV l) (reqV req0) (some 1) a (by rw [lst_len]; exact hle) (by rw [lst_len]; omega)
          rw [lst_len] at hI
          have eL : l.length + 1 = (l.take a ++ [x] ++ l.drop a).length := by simp; omega
          rw [eL] at hI
          repeat' (first | with_reducible apply True.intro | ((with_reducible apply GiveN.mk [0, 2]); (conv => whnf); (apply CallN.mk hI); (conv => whnf)) | ((apply Elem.mk _ (ins_get (by rw [lst_len]; exact hle))); (conv => whnf)) | ((with_reducible apply Same.mk); (focus (subst hx; exact lst_ins' (f := reqV) (x := ⟨t, seq, hops, who, min (now + 3) 1099511627776, 3⟩) hle)); (conv => whnf)) | ((first | (with_reducible first | apply Nm.set _ (int_mk _) | apply Nm.snoc _ (int_mk _) | apply Nm.rep _ (int_mk _) | apply Nm.set _ (bool_mk _) | apply Nm.snoc _ (bool_mk _) | apply Nm.rep _ (bool_mk _) | apply Nm.set _ (rfl) | apply Nm.snoc _ (rfl) | apply Nm.rep _ (rfl)) | ((with_reducible apply Nm.mk); focus ((try simp only [lns, ipRows_take]); exact rfl)) | ((with_reducible first | apply Wr.i64 | apply Wr.u8 | apply Wr.u16 | apply Wr.u32 | apply Wr.u64); focus omega) | ((with_reducible apply Need.mk); focus first | omega | (simp only [lns, ipRows_take]; omega) | exact List.cons_ne_nil _ _ | exact CleanP.nil rfl | exact CleanP.cell rfl rfl | exact CleanP.lst rfl (fun _ => rfl) | exact CleanP.lst2 rfl (fun _ => rfl) (fun _ => rfl) | kernel_rfl | (dsimp only; omega) | (unfold roomOK; simp only [lns, ipRows_take]; omega)) | ((with_reducible apply Elem.lst); focus first | omega | (simp only [lns, ipRows_take]; omega)) | (apply CallN.mk (k_qValid l g (by omega))) | (apply CallN.mk (k_ValidTo _)) | (apply CallN.mk (k_reqIsTime _)) | (apply CallN.mk (hS)) | (apply CallN.mk (k_Clone_Req l g (by omega))) | (apply CallN.mk (k_reqLater _ _ (by omega) (by omega))) | (with_reducible first | apply Bif.T | apply Bif.F) | ((with_reducible first | apply Bif.dec | apply Bif.beq | apply Bif.bne) <;> intro h <;> (try simp only [lns, ipRows_take] at h) <;> (try first | (exfalso; omega) | (exact absurd True.intro h) | (simp_all; done))) | (with_reducible first | apply Bif.not | apply Bif.and | apply Bif.or) | ((with_reducible apply Bif.mk) <;> intro h <;> (try first | (exfalso; omega) | (exact absurd True.intro h) | (simp_all; done))) | (with_reducible apply Same.rfl) | (apply Same.int; focus first | rfl | omega | (dsimp only; omega) | (simp only [lns, ipRows_take]; omega)) | (apply Same.bool; focus (with_reducible rfl)) | (apply Same.ov; (focus first | rfl | omega | (simp only [lns, ipRows_take]; omega)); focus first | rfl | omega | (simp only [lns, ipRows_take]; first | done | omega)) | ((with_reducible apply Same.mk); focus first | omega | (simp only [lns, ipRows_take]; omega)) | (apply Same.rfl) | (with_reducible first | apply Alt.l | apply Sl3.l | apply Cut.l | apply Turn.l | apply GiveN.lend)) <;> conv => whnf) | fail)
      · have hlt := (hfi.1 rfl).1
        have hn := newer_not hs (hq _ (gt_mem hlt))
        simp only [if_true]
        by_cases h6 : newer seq (gt l a).seq = true
        · rw [if_pos h6]
          have e1 : (gt l a).seq ≠ seq := fun h => by rw [hn.2 (.inl h)] at h6; cases h6
          have e2 : newer (gt l a).seq seq = false := by
            cases h : newer (gt l a).seq seq
            · rfl
            · rw [hn.2 (.inr h)] at h6; cases h6
          repeat' (first | with_reducible apply True.intro | ((apply Bif.ff e2); (conv => whnf)) | ((with_reducible apply Same.mk); (focus (first | (simp only [List.length_set]; done) | (rw [hx]; done) | fail)); (conv => whnf)) | ((first | (with_reducible first | apply Nm.set _ (req_mk _ _ _ _ _ _) | apply Nm.snoc _ (req_mk _ _ _ _ _ _) | apply Nm.rep _ (req_mk _ _ _ _ _ _) | apply Nm.set _ (req_mk2 _ _ _ _ _ _) | apply Nm.snoc _ (req_mk2 _ _ _ _ _ _) | apply Nm.rep _ (req_mk2 _ _ _ _ _ _) | apply Nm.set _ (int_mk _) | apply Nm.snoc _ (int_mk _) | apply Nm.rep _ (int_mk _) | apply Nm.set _ (bool_mk _) | apply Nm.snoc _ (bool_mk _) | apply Nm.rep _ (bool_mk _) | apply Nm.set _ (rfl) | apply Nm.snoc _ (rfl) | apply Nm.rep _ (rfl)) | ((with_reducible apply Nm.mk); focus ((try simp only [lns, ipRows_take]); exact rfl)) | ((with_reducible first | apply Wr.i64 | apply Wr.u8 | apply Wr.u16 | apply Wr.u32 | apply Wr.u64); focus omega) | ((with_reducible apply Need.mk); focus first | omega | (simp only [lns, ipRows_take]; omega) | exact List.cons_ne_nil _ _ | exact CleanP.nil rfl | exact CleanP.cell rfl rfl | exact CleanP.lst rfl (fun _ => rfl) | exact CleanP.lst2 rfl (fun _ => rfl) (fun _ => rfl) | kernel_rfl | (dsimp only; omega) | (unfold roomOK; simp only [lns, ipRows_take]; omega)) | ((with_reducible apply Elem.lst); focus first | omega | (simp only [lns, ipRows_take]; omega)) | (apply CallN.mk (k_qValid l g (by omega))) | (apply CallN.mk (k_ValidTo _)) | (apply CallN.mk (k_reqIsTime _)) | (apply CallN.mk (hS)) | (apply CallN.mk (k_Clone_Req l g (by omega))) | (apply CallN.mk (k_reqLater _ _ (by omega) (by omega))) | (apply CallN.mk (k_Newer _ _)) | (with_reducible first | apply Bif.T | apply Bif.F) | ((with_reducible first | apply Bif.dec | apply Bif.beq | apply Bif.bne) <;> intro h <;> (try simp only [lns, ipRows_take] at h) <;> (try first | (exfalso; omega) | (exact absurd True.intro h) | (exact absurd h e1) | (simp_all; done))) | (with_reducible first | apply Bif.not | apply Bif.and | apply Bif.or) | ((with_reducible apply Bif.mk) <;> intro h <;> (try first | (exfalso; omega) | (exact absurd True.intro h) | (exact absurd h e1) | (simp_all; done))) | (with_reducible apply Same.rfl) | (apply Same.int; focus first | rfl | omega | (dsimp only; omega) | (simp only [lns, ipRows_take]; omega)) | (apply Same.bool; focus (with_reducible rfl)) | (apply Same.ov; (focus first | rfl | omega | (simp only [lns, ipRows_take]; omega)); focus first | rfl | omega | (simp only [lns, ipRows_take]; first | done | omega)) | ((with_reducible apply Same.mk); focus first | omega | (simp only [lns, ipRows_take]; omega)) | (apply Same.rfl) | (with_reducible first | apply Alt.l | apply Sl3.l | apply Cut.l | apply Turn.l | apply GiveN.lend)) <;> conv => whnf) | fail)
        · rw [if_neg h6]
          have e := hn.1 (by simpa using h6)
          repeat' (first | with_reducible apply True.intro | ((first | (with_reducible first | apply Nm.set _ (req_mk _ _ _ _ _ _) | apply Nm.snoc _ (req_mk _ _ _ _ _ _) | apply Nm.rep _ (req_mk _ _ _ _ _ _) | apply Nm.set _ (req_mk2 _ _ _ _ _ _) | apply Nm.snoc _ (req_mk2 _ _ _ _ _ _) | apply Nm.rep _ (req_mk2 _ _ _ _ _ _) | apply Nm.set _ (int_mk _) | apply Nm.snoc _ (int_mk _) | apply Nm.rep _ (int_mk _) | apply Nm.set _ (bool_mk _) | apply Nm.snoc _ (bool_mk _) | apply Nm.rep _ (bool_mk _) | apply Nm.set _ (rfl) | apply Nm.snoc _ (rfl) | apply Nm.rep _ (rfl)) | ((with_reducible apply Nm.mk); focus ((try simp only [lns, ipRows_take]); exact rfl)) | ((with_reducible first | apply Wr.i64 | apply Wr.u8 | apply Wr.u16 | apply Wr.u32 | apply Wr.u64); focus omega) | ((with_reducible apply Need.mk); focus first | omega | (simp only [lns, ipRows_take]; omega) | exact List.cons_ne_nil _ _ | exact CleanP.nil rfl | exact CleanP.cell rfl rfl | exact CleanP.lst rfl (fun _ => rfl) | exact CleanP.lst2 rfl (fun _ => rfl) (fun _ => rfl) | kernel_rfl | (dsimp only; omega) | (unfold roomOK; simp only [lns, ipRows_take]; omega)) | ((with_reducible apply Elem.lst); focus first | omega | (simp only [lns, ipRows_take]; omega)) | (apply CallN.mk (k_qValid l g (by omega))) | (apply CallN.mk (k_ValidTo _)) | (apply CallN.mk (k_reqIsTime _)) | (apply CallN.mk (hS)) | (apply CallN.mk (k_Clone_Req l g (by omega))) | (apply CallN.mk (k_reqLater _ _ (by omega) (by omega))) | (apply CallN.mk (k_Newer _ _)) | (with_reducible first | apply Bif.T | apply Bif.F) | ((with_reducible first | apply Bif.dec | apply Bif.beq | apply Bif.bne) <;> intro h <;> (try simp only [lns, ipRows_take] at h) <;> (try first | (exfalso; omega) | (exact absurd True.intro h) | (simp_all; done) | (rcases e with e | e <;> simp_all <;> done))) | (with_reducible first | apply Bif.not | apply Bif.and | apply Bif.or) | ((with_reducible apply Bif.mk) <;> intro h <;> (try first | (exfalso; omega) | (exact absurd True.intro h) | (simp_all; done) | (rcases e with e | e <;> simp_all <;> done))) | (with_reducible apply Same.rfl) | (apply Same.int; focus first | rfl | omega | (dsimp only; omega) | (simp only [lns, ipRows_take]; omega)) | (apply Same.bool; focus (with_reducible rfl)) | (apply Same.ov; (focus first | rfl | omega | (simp only [lns, ipRows_take]; omega)); focus first | rfl | omega | (simp only [lns, ipRows_take]; first | done | omega)) | ((with_reducible apply Same.mk); focus first | omega | (simp only [lns, ipRows_take]; omega)) | (apply Same.rfl) | (with_reducible first | apply Alt.l | apply Sl3.l | apply Cut.l | apply Turn.l | apply GiveN.lend)) <;> conv => whnf) | fail)
    · simp only [addM, if_pos h1, if_neg h2]
      obtain ⟨hv, ht⟩ := h1
      have h2' : ¬ (0 ≤ now ∧ now ≤ 1099511627776) ∨ hops < 1 ∨ 32 < hops := by unfold addRng at h2; omega
      repeat' (first | with_reducible apply True.intro | ((first | (with_reducible first | apply Nm.set _ (int_mk _) | apply Nm.snoc _ (int_mk _) | apply Nm.rep _ (int_mk _) | apply Nm.set _ (bool_mk _) | apply Nm.snoc _ (bool_mk _) | apply Nm.rep _ (bool_mk _) | apply Nm.set _ (rfl) | apply Nm.snoc _ (rfl) | apply Nm.rep _ (rfl)) | ((with_reducible apply Nm.mk); focus ((try simp only [lns, ipRows_take]); exact rfl)) | ((with_reducible first | apply Wr.i64 | apply Wr.u8 | apply Wr.u16 | apply Wr.u32 | apply Wr.u64); focus omega) | ((with_reducible apply Need.mk); focus first | omega | (simp only [lns, ipRows_take]; omega) | exact List.cons_ne_nil _ _ | exact CleanP.nil rfl | exact CleanP.cell rfl rfl | exact CleanP.lst rfl (fun _ => rfl) | exact CleanP.lst2 rfl (fun _ => rfl) (fun _ => rfl) | kernel_rfl | (dsimp only; omega) | (unfold roomOK; simp only [lns, ipRows_take]; omega)) | ((with_reducible apply Elem.lst); focus first | omega | (simp only [lns, ipRows_take]; omega)) | (apply CallN.mk (k_qValid l g (by omega))) | (apply CallN.mk (k_ValidTo _)) | (apply CallN.mk (k_reqIsTime _)) | (with_reducible first | apply Bif.T | apply Bif.F) | ((with_reducible first | apply Bif.dec | apply Bif.beq | apply Bif.bne) <;> intro h <;> (try simp only [lns, ipRows_take] at h) <;> (try first | (exfalso; omega) | (exact absurd True.intro h) | (simp_all; done))) | (with_reducible first | apply Bif.not | apply Bif.and | apply Bif.or) | ((with_reducible apply Bif.mk) <;> intro h <;> (try first | (exfalso; omega) | (exact absurd True.intro h) | (simp_all; done))) | (with_reducible apply Same.rfl) | (apply Same.int; focus first | rfl | omega | (dsimp only; omega) | (simp only [lns, ipRows_take]; omega)) | (apply Same.bool; focus (with_reducible rfl)) | (apply Same.ov; (focus first | rfl | omega | (simp only [lns, ipRows_take]; omega)); focus first | rfl | omega | (simp only [lns, ipRows_take]; first | done | omega)) | ((with_reducible apply Same.mk); focus first | omega | (simp only [lns, ipRows_take]; omega)) | (apply Same.rfl) | (with_reducible first | apply Alt.l | apply Sl3.l | apply Cut.l | apply Turn.l | apply GiveN.lend)) <;> conv => whnf) | fail)
  · simp only [addM, if_neg h1]
    repeat' (first | with_reducible apply True.intro | ((first | (with_reducible first | apply Nm.set _ (int_mk _) | apply Nm.snoc _ (int_mk _) | apply Nm.rep _ (int_mk _) | apply Nm.set _ (bool_mk _) | apply Nm.snoc _ (bool_mk _) | apply Nm.rep _ (bool_mk _) | apply Nm.set _ (rfl) | apply Nm.snoc _ (rfl) | apply Nm.rep _ (rfl)) | ((with_reducible apply Nm.mk); focus ((try simp only [lns, ipRows_take]); exact rfl)) | ((with_reducible first | apply Wr.i64 | apply Wr.u8 | apply Wr.u16 | apply Wr.u32 | apply Wr.u64); focus omega) | ((with_reducible apply Need.mk); focus first | omega | (simp only [lns, ipRows_take]; omega) | exact List.cons_ne_nil _ _ | exact CleanP.nil rfl | exact CleanP.cell rfl rfl | exact CleanP.lst rfl (fun _ => rfl) | exact CleanP.lst2 rfl (fun _ => rfl) (fun _ => rfl) | kernel_rfl | (dsimp only; omega) | (unfold roomOK; simp only [lns, ipRows_take]; omega)) | ((with_reducible apply Elem.lst); focus first | omega | (simp only [lns, ipRows_take]; omega)) | (apply CallN.mk (k_qValid l g (by omega))) | (apply CallN.mk (k_ValidTo _)) | (apply CallN.mk (k_reqIsTime _)) | (with_reducible first | apply Bif.T | apply Bif.F) | ((with_reducible first | apply Bif.dec | apply Bif.beq | apply Bif.bne) <;> intro h <;> (try simp only [lns, ipRows_take] at h) <;> (try first | (exfalso; omega) | (exact absurd True.intro h) | (simp_all [addGood]; done))) | (with_reducible first | apply Bif.not | apply Bif.and | apply Bif.or) | ((with_reducible apply Bif.mk) <;> intro h <;> (try first | (exfalso; omega) | (exact absurd True.intro h) | (simp_all [addGood]; done))) | (with_reducible apply Same.rfl) | (apply Same.int; focus first | rfl | omega | (dsimp only; omega) | (simp only [lns, ipRows_take]; omega)) | (apply Same.bool; focus (with_reducible rfl)) | (apply Same.ov; (focus first | rfl | omega | (simp only [lns, ipRows_take]; omega)); focus first | rfl | omega | (simp only [lns, ipRows_take]; first | done | omega)) | ((with_reducible apply Same.mk); focus first | omega | (simp only [lns, ipRows_take]; omega)) | (apply Same.rfl) | (with_reducible first | apply Alt.l | apply Sl3.l | apply Cut.l | apply Turn.l | apply GiveN.lend)) <;> conv => whnf) | fail)
/-! What an addition leaves -/
theorem reqOK_of {l : List Req} {i : Nat} (h : validQ l = true) (hi : i < l.length) : reqOK (gt l i) = true := okL_ok h hi
theorem addX_ok {now : Int} {t : Dst} {seq hops who : Int} (ht : vDst t = true) (h : addRng now hops) : reqOK (addX now t seq hops who) = true := by
  obtain ⟨h1, h2, h3⟩ := h
  refine reqOK_iff.2 ⟨ht, h2, h3, ?_⟩
  show 0 ≤ min (now + 3) 1099511627776 ∧ min (now + 3) 1099511627776 ≤ 1099511627776 ∧ 1 ≤ (3 : Int) ∧ (3 : Int) ≤ 3
  omega
theorem addM_valid {l : List Req} {now : Int} {t : Dst} {seq hops who : Int} (h : (addM l now t seq hops who).2.2 = 0) : validQ (addM l now t seq hops who).1 = true := by
  unfold addM at h ⊢
  by_cases h1 : addGood l t
  · by_cases h2 : addRng now hops
    · have hx := addX_ok (seq := seq) (who := who) h1.2 h2
      cases hf : fndQ l t
      · by_cases h3 : l.length ≥ 64
        · simp [h1, h2, hf, h3] at h
        · simp only [h1, h2, hf, h3, if_true, if_false, Bool.false_eq_true]
          exact okL_ins cmpT_ok h1.1 (x := addX now t seq hops who) hf hx (by omega)
      · by_cases h3 : newer seq (gt l (atQ l t)).seq = true
        · simp only [h1, h2, hf, h3, if_true]
          exact okL_set cmpT_ok h1.1 (x := addX now t seq hops who) hf hx
        · simp only [h1, h2, hf, h3, if_true, if_false, Bool.false_eq_true]
          exact h1.1
    · simp only [if_pos h1, if_neg h2] at h; cases h
  · simp only [if_neg h1] at h; cases h
theorem addM_len {l : List Req} {now : Int} {t : Dst} {seq hops who : Int} : (addM l now t seq hops who).1.length ≤ 64 := by
  by_cases h : (addM l now t seq hops who).2.2 = 0
  · exact okL_len (addM_valid h)
  · unfold addM at h ⊢
    repeat' split
    all_goals simp_all
theorem addM_len1 {l : List Req} {now : Int} {t : Dst} {seq hops who : Int} : (addM l now t seq hops who).1.length ≤ l.length + 1 := by
  unfold addM
  repeat' split
  all_goals (try simp)
  have := atK_le (cm := cmpT) (κ := Req.to) l t
  omega
theorem addM_mem {l : List Req} {now : Int} {t : Dst} {seq hops who : Int} {r : Req} (h : r ∈ (addM l now t seq hops who).1) : r ∈ l ∨ r = addX now t seq hops who := by
  unfold addM at h
  repeat' split at h
  all_goals (try (simp at h; done))
  · exact (List.mem_or_eq_of_mem_set h)
  · exact .inl h
  · simp only [List.mem_append, List.mem_singleton] at h
    rcases h with (h | h) | h
    · exact .inl (List.mem_of_mem_take h)
    · exact .inr h
    · exact .inl (List.mem_of_mem_drop h)
theorem addM_seqs {l : List Req} {now : Int} {t : Dst} {seq hops who : Int} (hl : seqs l) (hs : 0 ≤ seq ∧ seq ≤ 65535) : seqs (addM l now t seq hops who).1 := fun r hr => by
  rcases addM_mem hr with h | rfl
  · exact hl r h
  · exact hs
end Go.Fw
