/- partition.Renumber. -/
import Derived.Test.YtpmiaggdjgfjgaaGreatParP
namespace Go.Fw
open Go.Proofs
set_option maxHeartbeats 8000000
set_option maxRecDepth 4000
theorem wrapU (x : Int) : IntKind.wrap .u64 x = x % 18446744073709551616 := by
  simp [IntKind.wrap, IntKind.bits, IntKind.signed]
theorem wrapS (v : Int) (i : Nat) : IntKind.wrap .u64 (seqV v i + 1) = seqV v (i + 1) := by rw [wrapU, seqV_succ]
abbrev netZ : SV := .agg [idV 0 0, .v (.slice none 0 0), .v (.slice none 0 0)]
theorem k_xRenumber (n : Net) (now : Int) (p : Pfx) (lost : List Clm) (lt : Int) (hn : NetR n) (hL : lost.length ≤ 1000000) (hU : ∀ c ∈ lost, isU c.eui) :
    Con Tryz.prog 24 [netF n, int now, pfxV p, .fs .no 20 (lst clmV lost), int lt] [] (.tup [netO (renM n now p lost lt).1 0 1, .ov 20 2 0 (renM n now p lost lt).2.1.length, int (renM n now p lost lt).2.2]) (netH (renM n now p lost lt).1 ++ [.arr none 20 (lst clmV (renM n now p lost lt).2.1)]) := by
  have c1 := k_nValid n hn
  have c2 := k_ValidPrefix p
  have c3 := k_ContInv lost .no hL
  by_cases hv : validN n = true ∧ vPfx p = true ∧ lost.all clmOK = true
  case neg =>
    rw [renM, if_neg hv]
    refine spec_of_run ttok mixed (T0 := 10889035741549277278421240165328381263039) (ts := [.cell 10 29, .tmp 11, .tmp 12]) 151 rfl rfl rfl rfl (by simp) rfl ?_
    conv => whnf
    repeat' (first | with_reducible apply True.intro | ((first | (apply CallN.mk (c1)) | (apply CallN.mk (c2)) | (apply CallN.mk (c3)) | (with_reducible first | apply Bif.T | apply Bif.F) | (with_reducible apply Bif.not) | ((with_reducible apply Bif.mk) <;> intro h <;> (try (exact absurd ⟨‹_›, ‹_›, ‹_›⟩ hv))) | (with_reducible apply Same.rfl) | (apply Same.int; focus rfl) | (apply Same.rfl) | (with_reducible apply Frz.l)) <;> conv => whnf) | fail)
  by_cases hr : isTm now ∧ p.bits ≤ 64 ∧ 1 ≤ lt ∧ lt ≤ 1099511627776
  case neg =>
    rw [renM, if_pos hv, if_neg hr]
    rw [hv.1] at c1
    rw [hv.2.1] at c2
    rw [hv.2.2] at c3
    refine spec_of_run ttok mixed (T0 := 10889035741549277278421240165328381263039) (ts := [.cell 10 29, .tmp 11, .tmp 12]) 151 rfl rfl rfl rfl (by simp) rfl ?_
    conv => whnf
    repeat' (first | with_reducible apply True.intro | ((first | (apply CallN.mk (c1)) | (apply CallN.mk (c2)) | (apply CallN.mk (c3)) | (apply CallN.mk (k_pisTime _)) | (with_reducible first | apply Bif.T | apply Bif.F) | ((with_reducible apply Bif.dec) <;> intro h <;> (try simp only [lns, ipRows_take] at h) <;> (try (exfalso; omega))) | (with_reducible apply Bif.not) | (with_reducible apply Same.rfl) | (apply Same.int; focus rfl) | (apply Same.rfl) | (with_reducible apply Frz.l)) <;> conv => whnf) | fail)
  rw [hv.1] at c1
  rw [hv.2.1] at c2
  rw [hv.2.2] at c3
  have c4 := k_pisTime now
  rw [decide_eq_true hr.1] at c4
  obtain ⟨hn1, hb, hl1, hl2⟩ := hr
  have hvr := (validN_iff.1 hv.1).2.2.2
  have hlen := validR_len hvr
  have hm12 := (validN_iff.1 hv.1).2.1.2.1
  have hcl := cur_len n.cl now
  refine spec_of_run ttok mixed (T0 := 10889035741549277278421240165328381263039) (ts := [.cell 10 29, .tmp 11, .tmp 12]) 151 rfl rfl rfl rfl (by simp) rfl ?_
  conv => whnf
  repeat' (first | ((first | ((with_reducible apply Nm.mk); focus ((try simp only [lns, ipRows_take]); exact rfl)) | (apply CallN.mk (c1)) | (apply CallN.mk (c2)) | (apply CallN.mk (c3)) | (apply CallN.mk (c4)) | (with_reducible first | apply Bif.T | apply Bif.F) | ((with_reducible apply Bif.dec) <;> intro h <;> (try simp only [lns, ipRows_take] at h) <;> (try (exfalso; omega))) | (with_reducible apply Bif.not) | (with_reducible apply Frz.l)) <;> conv => whnf) | fail)
  refine LoopN.adoptB 3 20 rfl (by simp) ?_
  refine loop_keep ttok mixed (T0 := 10889035741549277278421240165328381263039) [1, 3, 4, 57, 58] (ι := {k : Nat // k ≤ n.cl.length})
    (fun k => [(5, .pb 0 []), (7, .pb 1 []), (10, .pb 2 []), (13, .pb 3 []), (59, int (k.1 : Int))]) (fun k => [.cells (netF n), .cells (pfxV p), .cells netZ, .cells (.ov 20 4 0 (cur (n.cl.take k.1) now).length), .arr none 20 (lst clmV (cur (n.cl.take k.1) now))]) (fun k => n.cl.length - k.1) ⟨0, by omega⟩ ?_
  conv => whnf
  repeat' (first | ((apply Same.mk rfl); conv => whnf) | ((with_reducible apply Frz.l) <;> conv => whnf) | fail)
  rintro ⟨k, hk⟩
  dsimp only
  have hck := cur_len (n.cl.take k) now
  rw [List.length_take] at hck
  conv => whnf
  by_cases hkl : k < n.cl.length
  · have e1 := cur_snoc (now := now) hkl
    by_cases hu : (gt n.cl k).upto > now
    · rw [if_pos hu] at e1
      have e2 := congrArg List.length e1
      rw [List.length_append] at e2
      simp only [List.length_cons, List.length_nil] at e2
      repeat' (first | ((first | ((with_reducible apply Nm.mk); focus ((try simp only [lns, ipRows_take]); exact rfl)) | ((with_reducible apply Wr.i64); focus omega) | ((with_reducible apply Need.mk); focus first | (simp only [lns, ipRows_take]; omega) | (unfold roomOK; simp only [lns, ipRows_take]; omega)) | ((with_reducible apply Elem.lst); focus omega) | ((with_reducible apply Bif.dec) <;> intro h <;> (try simp only [lns, ipRows_take] at h) <;> (try (exfalso; omega))) | (with_reducible apply Alt.l) | (with_reducible apply Frz.l)) <;> conv => whnf) | fail)
      (refine ⟨⟨k + 1, by omega⟩, ?_⟩; (try dsimp only); conv => whnf); repeat' (first | with_reducible apply True.intro | ((with_reducible apply Turn.r); (conv => whnf)) | ((apply Same.mk (by rw [e1]; simp [lst]; rfl)); (conv => whnf)) | ((apply Same.mk e2.symm); (conv => whnf)) | ((first | ((with_reducible apply Need.mk); focus omega) | (with_reducible apply Same.rfl) | (apply Same.int; focus rfl) | (with_reducible apply Cut.l) | (with_reducible apply Frz.l)) <;> conv => whnf) | fail)
    · rw [if_neg hu, List.append_nil] at e1
      repeat' (first | ((first | ((with_reducible apply Nm.mk); focus ((try simp only [lns, ipRows_take]); exact rfl)) | ((with_reducible apply Wr.i64); focus omega) | ((with_reducible apply Need.mk); focus (simp only [lns, ipRows_take]; omega)) | ((with_reducible apply Elem.lst); focus omega) | ((with_reducible apply Bif.dec) <;> intro h <;> (try simp only [lns, ipRows_take] at h) <;> (try (exfalso; omega))) | (with_reducible apply Frz.l)) <;> conv => whnf) | fail)
      (refine ⟨⟨k + 1, by omega⟩, ?_⟩; (try dsimp only); conv => whnf); repeat' (first | with_reducible apply True.intro | ((with_reducible apply Turn.r); (conv => whnf)) | ((apply Same.mk (by rw [e1])); (conv => whnf)) | ((first | ((with_reducible apply Need.mk); focus omega) | (with_reducible apply Same.rfl) | (apply Same.int; focus rfl) | (with_reducible apply Cut.l) | (with_reducible apply Frz.l)) <;> conv => whnf) | fail)
  · have ek : n.cl.take k = n.cl := List.take_of_length_le (by omega)
    rw [ek]
    by_cases h64 : (cur n.cl now).length + lost.length > 64
    · rw [renM, if_pos hv, if_pos ⟨hn1, hb, hl1, hl2⟩, if_pos h64]
      repeat' (first | with_reducible apply True.intro | ((first | ((with_reducible apply Nm.mk); focus ((try simp only [lns, ipRows_take]); exact rfl)) | ((with_reducible apply Wr.i64); focus omega) | ((with_reducible apply Bif.dec) <;> intro h <;> (try simp only [lns, ipRows_take] at h) <;> (try (exfalso; omega))) | (with_reducible apply Same.rfl) | (apply Same.int; focus rfl) | (apply Same.rfl) | (with_reducible apply Frz.l)) <;> conv => whnf) | fail)
    · rw [renM, if_pos hv, if_pos ⟨hn1, hb, hl1, hl2⟩, if_neg h64]
      repeat' (first | ((first | ((with_reducible apply Nm.mk); focus ((try simp only [lns, ipRows_take]); exact rfl)) | ((with_reducible apply Wr.i64); focus omega) | ((with_reducible apply Bif.dec) <;> intro h <;> (try simp only [lns, ipRows_take] at h) <;> (try (exfalso; omega))) | (with_reducible apply Frz.l)) <;> conv => whnf) | fail)
      have pC : (cur n.cl now).Pairwise byIP := cur_pw hvr now
      have vC : ∀ x ∈ cur n.cl now, clmOK x = true := fun x hx => validR_ok hvr x (List.mem_filter.1 hx).1
      have vL : ∀ x ∈ lost, clmOK x = true := fun x hx => List.all_eq_true.1 hv.2.2 x hx
      have hT := renT_ok (a := p.ip) hn1 ⟨hl1, hl2⟩ pC vC vL (by omega)
      generalize cur n.cl now = D at *
      refine LoopN.adopt 17 20 rfl (by simp) ?_
      refine loop_keep ttok mixed (T0 := 10889035741549277278421240165328381263039) [1, 4, 80, 81] (ι := {j : Nat // j ≤ lost.length})
        (fun j => [(5, .pb 0 []), (7, .pb 1 []), (10, .pb 2 []), (13, .pb 3 []), (16, .clo 43 [.pb 3 []]), (17, .ov 20 5 0 (renT now lt p.ip D (lost.take j.1)).2.length), (82, int (j.1 : Int))])
        (fun j => [.cells (netF n), .cells (pfxV p), .cells netZ, .cells (.ov 20 4 0 (renT now lt p.ip D (lost.take j.1)).1.length), .arr none 20 (lst clmV (renT now lt p.ip D (lost.take j.1)).1), .arr none 20 (lst clmV (renT now lt p.ip D (lost.take j.1)).2)]) (fun j => lost.length - j.1) ⟨0, by omega⟩ ?_
      conv => whnf
      repeat' (first | ((apply Same.mk rfl); conv => whnf) | ((with_reducible apply Frz.l) <;> conv => whnf) | fail)
      rintro ⟨j, hj⟩
      dsimp only
      have hI := hT j hj
      have i1 := hI.l1
      have i2 := hI.l2
      rw [List.length_take] at i1 i2
      conv => whnf
      by_cases hjl : j < lost.length
      · have hstep := renT_step now lt p.ip D hjl
        have hu := hU _ (gt_mem (l := lost) (i := j) hjl)
        generalize renT now lt p.ip D (lost.take j) = s at *
        obtain ⟨C, F⟩ := s
        dsimp only at i1 i2 ⊢
        have cJ := fun v => k_aJoin p v hv.2.1 hb
        repeat' (first | ((first | ((with_reducible apply Nm.mk); focus ((try simp only [lns, ipRows_take]); exact rfl)) | ((with_reducible apply Need.mk); focus (simp only [lns, ipRows_take]; omega)) | ((with_reducible apply Elem.lst); focus omega) | (apply CallN.mk (cJ _ hu)) | ((with_reducible apply Bif.dec) <;> intro h <;> (try simp only [lns, ipRows_take] at h) <;> (try (exfalso; omega))) | (with_reducible apply Frz.l)) <;> conv => whnf) | fail)
        refine loop_keep ttok mixed (T0 := 10889035741549277278421240165328381263039) [1, 4, 80, 81, 82] (ι := {i : Nat // i ≤ C.length ∧ ∀ k, k < i → tk C (ipJ p.ip (seqV (gt lost j).eui k)) = true})
          (fun i => [(5, .pb 0 []), (7, .pb 1 []), (10, .pb 2 []), (13, .pb 3 []), (16, .clo 43 [.pb 3 []]), (17, .ov 20 5 0 F.length), (19, .pb 6 []), (20, .v (.int .u64 (seqV (gt lost j).eui i.1))), (21, .pb 7 [])])
          (fun i => [.cells (netF n), .cells (pfxV p), .cells netZ, .cells (.ov 20 4 0 C.length), .arr none 20 (lst clmV C), .arr none 20 (lst clmV F), .cells (clmV (gt lost j)), .cells (ipV (ipJ p.ip (seqV (gt lost j).eui i.1)))]) (fun i => C.length + 1 - i.1) ⟨0, by omega, none_lt⟩ ?_
        conv => whnf
        repeat' (first | ((apply Same.mk (by simp only [seqV_zero hu])); (conv => whnf)) | ((with_reducible apply Frz.l) <;> conv => whnf) | fail)
        rintro ⟨i, hi, ht⟩
        dsimp only
        have kt := k_taken (ipJ p.ip (seqV (gt lost j).eui i)) C (by omega)
        conv => whnf
        repeat' (first | ((with_reducible apply GiveN.keep []); (conv => whnf); (apply CallKN.mk kt); (conv => whnf)) | ((apply Wr.eq (wrapS _ _)); (conv => whnf)) | ((first | ((with_reducible apply Nm.mk); focus ((try simp only [lns, ipRows_take]); exact rfl)) | ((with_reducible apply Wr.i64); focus omega) | ((with_reducible apply Need.mk); focus first | (simp only [lns, ipRows_take]; omega) | (unfold roomOK; simp only [lns, ipRows_take]; omega)) | (apply CallN.mk (cJ _ (seqV_u _ _))) | ((with_reducible apply Bif.mk) <;> intro h) | (with_reducible apply Alt.l) | (with_reducible apply Frz.l)) <;> conv => whnf) | fail)
        · have ht2 : ∀ k, k < i + 1 → tk C (ipJ p.ip (seqV (gt lost j).eui k)) = true := fun k hk => by
            rcases Nat.lt_or_ge k i with g | g
            · exact ht k g
            · rw [show k = i by omega]; exact h
          have hi2 := tk_all (by omega) ht2
          (refine ⟨⟨i + 1, hi2, ht2⟩, ?_⟩; (try dsimp only); conv => whnf); repeat' (first | with_reducible apply True.intro | ((first | ((with_reducible apply Need.mk); focus omega) | (with_reducible apply Same.rfl) | (with_reducible apply Turn.l) | (with_reducible apply Frz.l)) <;> conv => whnf) | fail)
        · have hf := freeJ_eq (by omega) ht h
          have hX : renC now lt p.ip C (gt lost j) = ⟨ipJ p.ip (seqV (gt lost j).eui i), (gt lost j).eui, (gt lost j).seq, now, min (now + lt) 1099511627776⟩ := by rw [renC, hf]
          have hne := tk_no h
          generalize ipJ p.ip (seqV (gt lost j).eui i) = ip at *
          refine loop_keep ttok mixed (T0 := 10889035741549277278421240165328381263039) [1, 4, 80, 81, 82] (ι := {q : Nat // q ≤ C.length ∧ ∀ k, k < q → cmpB (gt C k).ip.1 ip.1 < 0})
            (fun q => [(5, .pb 0 []), (7, .pb 1 []), (10, .pb 2 []), (13, .pb 3 []), (16, .clo 43 [.pb 3 []]), (17, .ov 20 5 0 (F.length + 1)), (19, .pb 6 []), (21, .pb 7 []), (23, .pb 8 []), (24, int (q.1 : Int))])
            (fun _ => [.cells (netF n), .cells (pfxV p), .cells netZ, .cells (.ov 20 4 0 C.length), .arr none 20 (lst clmV C), .arr none 20 (lst clmV (F ++ [renC now lt p.ip C (gt lost j)])), .cells (clmV (gt lost j)), .cells (ipV ip), .cells (clmV (renC now lt p.ip C (gt lost j)))]) (fun q => C.length - q.1) ⟨0, by omega, none_lt⟩ ?_
          conv => whnf
          repeat' (first | ((apply Same.mk (by rw [hX]; simp [lst]; rfl)); (conv => whnf)) | ((apply Same.mk (by rw [hX]; rfl)); (conv => whnf)) | ((first | (with_reducible apply Same.rfl) | (apply Same.int; focus rfl) | (with_reducible apply Frz.l)) <;> conv => whnf) | fail)
          rintro ⟨q, hq, hlt⟩
          dsimp only
          conv => whnf
          have kI := k_Insert_Clm (lst clmV C) (clmV (renC now lt p.ip C (gt lost j))) (some 1) q (by simp [lst]; omega) (by simp [lst]; omega)
          rw [show (lst clmV C).length = C.length by simp [lst]] at kI
          repeat' (first | ((with_reducible apply GiveN.mk [0, 2]); (conv => whnf); (apply CallN.mk kI); (conv => whnf)) | ((first | ((with_reducible apply Nm.mk); focus ((try simp only [lns, ipRows_take]); exact rfl)) | ((with_reducible apply Wr.i64); focus omega) | ((with_reducible apply Need.mk); focus first | omega | exact CleanP.nil rfl | kernel_rfl) | ((with_reducible apply Elem.lst); focus omega) | (apply CallN.mk (k_bytesCompare (gt C q).ip ip _ _)) | (with_reducible first | apply Bif.T | apply Bif.F) | ((with_reducible apply Bif.dec) <;> intro h <;> (try simp only [lns, ipRows_take] at h)) | (with_reducible apply GiveN.lend) | (with_reducible apply Frz.l)) <;> conv => whnf) | fail)
          · (refine ⟨⟨q + 1, by omega, step_lt hlt h⟩, ?_⟩; (try dsimp only); conv => whnf); repeat' (first | with_reducible apply True.intro | ((first | ((with_reducible apply Need.mk); focus omega) | (with_reducible apply Same.rfl) | (apply Same.int; focus rfl) | (with_reducible apply Turn.l) | (with_reducible apply Frz.l)) <;> conv => whnf) | fail)
          all_goals
            have hpos : pos (insQ (renC now lt p.ip C (gt lost j))) C = q := by
              refine pos_eq hq (fun k hk => ?_) (fun hql => ?_)
              · have h1 := hlt k hk
                have h2 := cmpB_anti (gt C k).ip.1 ip.1
                rw [hX]
                show (!decide (cmpB ip.1 (gt C k).ip.1 < 0)) = true
                rw [decide_eq_false (by omega)]; rfl
              · have h1 : ¬ cmpB (gt C q).ip.1 ip.1 < 0 := by first | assumption | omega
                have h2 := cmpB_anti (gt C q).ip.1 ip.1
                have h3 : cmpB (gt C q).ip.1 ip.1 ≠ 0 := fun e => hne _ (gt_mem hql) (cmpIP_zero e)
                rw [hX]
                show (!decide (cmpB ip.1 (gt C q).ip.1 < 0)) = false
                rw [decide_eq_true (by omega)]; rfl
            have e1 : (lst clmV C).take q ++ [clmV (renC now lt p.ip C (gt lost j))] ++ (lst clmV C).drop q = lst clmV (renT now lt p.ip D (lost.take (j + 1))).1 := by
              rw [hstep, renS, insM, hpos]; simp [lst]
            have e2 : C.length + 1 = (renT now lt p.ip D (lost.take (j + 1))).1.length := by rw [hstep]; exact (insM_len _ _).symm
            have e3 : F ++ [renC now lt p.ip C (gt lost j)] = (renT now lt p.ip D (lost.take (j + 1))).2 := by rw [hstep]; rfl
            have e4 : F.length + 1 = (renT now lt p.ip D (lost.take (j + 1))).2.length := by rw [← e3]; simp
          · (refine ⟨⟨j + 1, by omega⟩, ?_⟩; (try dsimp only); conv => whnf); repeat' (first | with_reducible apply True.intro | ((with_reducible apply Turn.r); (conv => whnf)) | ((apply Same.mk e1); (conv => whnf)) | ((apply Same.mk e2); (conv => whnf)) | ((apply Same.mk (congrArg _ e3)); (conv => whnf)) | ((apply Same.mk e4); (conv => whnf)) | ((first | ((with_reducible apply Need.mk); focus omega) | (with_reducible apply Same.rfl) | (apply Same.int; focus rfl) | (with_reducible apply Cut.l) | (with_reducible apply Frz.l)) <;> conv => whnf) | fail)
          · (refine ⟨⟨j + 1, by omega⟩, ?_⟩; (try dsimp only); conv => whnf); repeat' (first | with_reducible apply True.intro | ((with_reducible apply Turn.r); (conv => whnf)) | ((apply Same.mk e1); (conv => whnf)) | ((apply Same.mk e2); (conv => whnf)) | ((apply Same.mk (congrArg _ e3)); (conv => whnf)) | ((apply Same.mk e4); (conv => whnf)) | ((first | ((with_reducible apply Need.mk); focus omega) | (with_reducible apply Same.rfl) | (apply Same.int; focus rfl) | (with_reducible apply Cut.l) | (with_reducible apply Frz.l)) <;> conv => whnf) | fail)
      · have ej : lost.take j = lost := List.take_of_length_le (by omega)
        rw [ej] at i1 i2 ⊢
        repeat' (first | with_reducible apply True.intro | ((first | ((with_reducible apply Nm.mk); focus ((try simp only [lns, ipRows_take]); exact rfl)) | ((with_reducible apply Need.mk); focus first | kernel_rfl | (unfold roomOK; simp only [lns, ipRows_take]; omega)) | ((with_reducible apply Bif.dec) <;> intro h <;> (try simp only [lns, ipRows_take] at h) <;> (try (exfalso; omega))) | (with_reducible apply Same.rfl) | (apply Same.int; focus rfl) | (with_reducible apply Cut.l) | (with_reducible apply Frz.l)) <;> conv => whnf) | fail)
end Go.Fw
