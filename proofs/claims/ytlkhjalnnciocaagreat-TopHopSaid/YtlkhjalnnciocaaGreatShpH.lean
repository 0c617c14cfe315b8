/- TopHop: the walk. -/
import Derived.Test.YtlkhjalnnciocaaGreatHpD

namespace Go.Fw
open Go.Proofs
set_option maxHeartbeats 8000000
set_option maxRecDepth 8000
/-- Ahead of a loop: a nil slice is a slice without elements. -/
theorem LoopN.nilF {P : Program} {n : Sz} {c : Code} {e : List (Nat × SV)} {h : List OB} {K : Exit → List (Nat × SV) → List OB → Prop} (t E : Nat) (ht : lk e t = some (.v (.slice none 0 0)))
    (hk : LoopN P n c ((t, .fs .no E []) :: e) h K) : LoopN P n c e h K := by
  rw [loopN_iff] at hk ⊢
  obtain ⟨x, e', h', h1, h2⟩ := hk
  refine ⟨x, e', h', h1, fun B cx a w Q hB hs hK => h2 B cx a w Q hB ⟨hs.df, hs.sz, fun t' s' g => ?_, hs.mem, hs.fr⟩ hK⟩
  rw [lk_cons_if] at g
  split at g
  · rename_i he
    subst he
    cases g
    obtain ⟨v, g1, g2⟩ := hs.sl _ _ ht
    have g3 := relV_v g2
    subst g3
    exact ⟨_, g1, RelC.fs0 Tg.ok_no⟩
  · exact hs.sl _ _ g
theorem d0_le : D0 ≤ 18446744073709551615 := by decide
theorem d1_le : D1 ≤ 18446744073709551615 := by decide
theorem cmpW_len {p : Pkt} {e0 e1 : Nat} {l : List Cxt} {now : Int} (h : VCx l) (hp : VP p) : 2 ≤ (cmpW p e0 e1 l now).length ∧ (cmpW p e0 e1 l now).length ≤ 1288 := by
  have hL := hdM_len (p := p) (e0 := e0) (e1 := e1) (now := now) h
  have hpl := pay_le hp
  have hu := udpB_len p (sumP p)
  unfold cmpW
  split <;> simp only [List.length_append] <;> omega
theorem k_TopHop (l order : List Int) (now0 : Int) : Con Tryz.prog 7 [.fs .no 1 (ints l), .fs .no 1 (ints order), int now0] [] (bool true) [] := by
  have cN := k_made_New l
  have hlt : (l.take 400).length ≤ 400 := by simp; omega
  generalize l.take 400 = t at *
  have c12 := k_made_Mod now0 50 (by decide)
  have hn50 := modV_range (v := now0) (n := 50) (by decide)
  generalize modV now0 50 = now at *
  have c0 : Con Tryz.prog 19 [int 0] [] (lnkV D0) [] := k_device 0 (by decide)
  have c1 : Con Tryz.prog 19 [int 1] [] (lnkV D1) [] := k_device 1 (by decide)
  have hT : isTm now := by unfold isTm; omega
  refine spec_of_run ttok mixed (T0 := 93536863014525170650511099262660327024100233445319) (ts := [.tmp 6]) 179 rfl rfl rfl rfl (by simp) rfl ?_
  conv => whnf
  repeat' (first | ((first | (apply CallN.mk (cN)) | (refine CallN.ex (k_mCxts t _ (by decide) hlt) ?_; rintro _ _ ⟨L, k1, rfl, rfl, hL, hL16, hk1⟩) | (apply CallN.mk (c0)) | (apply CallN.mk (c1)) | (refine CallN.ex (k_mPacket t _ D0 D1 d0_le d1_le hk1 hlt) ?_; rintro _ _ ⟨p, k2, rfl, rfl, hp, hk2⟩) | (apply CallN.mk (c12)) | (with_reducible apply Frz.l)) <;> conv => whnf) | fail)
  have cE := k_cEnc p D0 D1 d0_le d1_le L now hL hT (by omega) hp
  have cD := k_cDec p D0 D1 d0_le d1_le L now hL hT (by omega) hp
  have hbl := cmpW_len (p := p) (e0 := D0) (e1 := D1) (l := L) (now := now) hL hp
  have cS := k_pkSame p (Nat.le_trans (pay_le hp) (by decide))
  generalize cmpW p D0 D1 L now = b at *
  have cP := k_parts b 3 (by decide) (by omega)
  have h80 := spF_80 (tag := 3) (b := b) b.length 0
  have hch := spF_chn (room := 90) (tag := 3) (b := b) (by omega) (by decide) b.length 0 (by omega) (by omega) (.inl rfl)
  obtain ⟨D, e1, e2, e3, e4, e5⟩ : ∃ D : Dat, D.src = lnk D0 ∧ D.dst = lnk D1 ∧ D.tag = 3 ∧ D.b = b ∧ D.f = spF 90 3 b b.length 0 := ⟨⟨lnk D0, lnk D1, 3, b, spF 90 3 b b.length 0, by decide, by decide, by omega, hch⟩, rfl, rfl, rfl, rfl, rfl⟩
  rw [← e5] at cP h80 hch
  have hn := D.pos
  have hPl : (D.f.map encD).length = D.f.length := List.length_map _
  have hP95 : ∀ x ∈ D.f.map encD, x.length ≤ 95 := by
    intro x hx
    obtain ⟨f, hf, rfl⟩ := List.mem_map.1 hx
    have := h80.2 f hf
    have := encD_len f
    omega
  have hPg : ∀ k, k < D.f.length → gt (D.f.map encD) k = encD (gt D.f k) := fun k hk => gt_map hk
  have h17 : D.f.length ≤ 31 := by have := h80.1; omega
  generalize D.f.map encD = P at *
  have cs := k_sealed (grd1 X0) P .no vg_X1 (by rw [hPl]; show 1 + _ ≤ 1048576; omega) hP95 (by omega)
  rw [hPl] at cs
  repeat' (first | ((first | (apply CallN.le (cE); focus ((repeat' (first | (with_reducible apply ArgLe.nil) | (exact ArgLe.nil) | (exact ArgLe.rfl) | (exact ArgLe.fs) | (exact True.intro) | (apply And.intro) | (apply Wk.arg; repeat' (first | (exact Wk.rfl) | (exact Wk.nilS) | (exact Wk.tag) | (apply Wk.cons) | (apply Wk.lits) | (exact WkL.nil) | (apply WkL.cons) | fail)) | fail)); done)) | (apply CallN.mk (cP)) | (apply CallN.mk (k_pair)) | (apply CallN.mk (cs)) | (with_reducible first | apply Bif.T | apply Bif.F) | ((with_reducible apply Bif.bne) <;> intro h <;> (try simp only [lns, beN_len] at h) <;> (try (exfalso; omega))) | (with_reducible apply Bif.not) | (with_reducible apply Frz.l)) <;> conv => whnf) | fail)
  obtain ⟨m, hm⟩ : ∃ m : Nat, min (order.length : Int) 60 = (m : Int) := ⟨min order.length 60, by omega⟩
  obtain ⟨u, hu⟩ : ∃ u : Int, u = min (now + 12) 1099511627776 := ⟨_, rfl⟩
  have hun : u > now := by omega
  have hel := encL_len (grd1 X0) P D.f.length
  refine LoopN.nilF 22 10 rfl ?_
  refine loop_keep ttok mixed (T0 := 93536863014525170650511099262660327024100233445319) [1, 2, 8, 9, 10, 11, 17, 20] (ι := HopI D u m)
    (fun q => [(22, .fs .no 10 (lst bufV q.L)), (23, int (q.got : Int)), (24, int (q.i : Int))]) (fun q => [.cells (tape t k2), .cells (lnkV D0), .cells (lnkV D1), .cells (pktV p), .cells (grdV (grd1 X0)), .cells (grdV q.Y), .cells (grdV (gN (grd1 X0) D.f.length))]) (fun q => m + D.f.length - q.i)
    ⟨0, Y1, ⟨0, 4294967295⟩, List.replicate D.f.length false, [], 0, by omega, vg_Y1, rfl, by decide, Hst.init hn, fun k hk => ⟨fun h => (by rw [List.getElem?_replicate, if_pos hk] at h; cases h), fun h => (by rw [seen_iff] at h; exact absurd h.1 (by show ¬ k + 1 ≤ 0; omega))⟩, fun k h => absurd h (by omega)⟩ ?_
  conv => whnf
  repeat' (first | ((first | (with_reducible apply Same.rfl) | (apply Same.int; focus rfl) | (apply Same.rfl) | (with_reducible apply Frz.l)) <;> conv => whnf) | fail)
  rintro q
  have hnew := fun k hk => q.new (k := k) hk
  have hsee := fun k hk => q.seen h17 (k := k) hk
  have hdn := fun k hk => q.dn (k := k) hk
  have hdnS := fun k hk => q.dnS (k := k) hk
  obtain ⟨i, Y, pr, s, B, got, hi, vY, hpr, hlast, st, hs, hd⟩ := q
  dsimp only at hi vY hpr hlast st hs hd hnew hsee hdn hdnS ⊢
  conv => whnf
  by_cases hin : i < m + D.f.length
  · obtain ⟨k, hkn, hk1, hk2⟩ : ∃ k : Nat, k < D.f.length ∧ (i < m → modV (gt order i) (D.f.length : Int) = (k : Int)) ∧ (m ≤ i → k = i - m) := by
      by_cases him : i < m
      · have r3 := modV_range (v := gt order i) (n := (D.f.length : Int)) (by omega)
        exact ⟨(modV (gt order i) (D.f.length : Int)).toNat, by omega, fun _ => by omega, fun h => by omega⟩
      · exact ⟨i - m, by omega, fun h => by omega, fun _ => rfl⟩
    have c3 := k_made_Mod (gt order i) (D.f.length : Int) (by omega)
    have sf : SF (frI (grd1 X0) P k) := frI_SF vg_X1 (by show 1 + k ≤ 1048576; omega) (hP95 _ (gt_mem (by omega)))
    have hctr : (frI (grd1 X0) P k).ctr = k + 1 := by show 0 + 1 + k = k + 1; omega
    have hpay : (frI (grd1 X0) P k).pay = encD (gt D.f k) := hPg k hkn
    have hge : gt (encL (grd1 X0) P D.f.length) k = encM (frI (grd1 X0) P k) := gt_encL hkn
    have co := k_opened Y pr _ vY hpr sf
    rw [hctr, ← hge, hpay] at co
    have hMod : i < m → Con Tryz.prog 12 [int (gt order i), int (D.f.length : Int)] [] (int (k : Int)) [] := fun h => by rw [hk1 h] at c3; exact c3
    have hidx : m ≤ i → (i : Int) - (m : Int) = (k : Int) := fun h => by have := hk2 h; omega
    by_cases hsn : seenP pr (k + 1) = true
    · rw [if_pos hsn] at co
      by_cases him : i < m
      · have c4 := hMod him
        repeat' (first | ((first | ((with_reducible apply Nm.mk); focus ((try simp only [lns, beN_len, hel, hm]); exact rfl)) | ((with_reducible apply Wr.i64); focus omega) | ((with_reducible apply Need.mk); focus first | (simp only [lns, beN_len, hel, hm]; omega) | kernel_rfl) | ((with_reducible apply Elem.lst); focus omega) | (apply CallN.mk (c4)) | (apply CallN.mk (co)) | (with_reducible apply Bif.F) | ((with_reducible apply Bif.dec) <;> intro h <;> (try simp only [lns, beN_len, hel, hm] at h) <;> (try (exfalso; omega))) | (with_reducible apply Bif.not) | (with_reducible apply Frz.l)) <;> conv => whnf) | fail)
        (refine ⟨(⟨i + 1, Y, pr, s, B, got, by omega, vY, hpr, hlast, st, hs, hdnS k hkn hsn hk2⟩ : HopI D u m), ?_⟩; (try dsimp only); conv => whnf); repeat' (first | with_reducible apply True.intro | ((first | ((with_reducible apply Need.mk); focus omega) | (with_reducible apply Same.rfl) | (apply Same.int; focus rfl) | (with_reducible apply Turn.l) | (with_reducible apply Frz.l)) <;> conv => whnf) | fail)
      · have e25 := hidx (by omega)
        repeat' (first | ((first | ((with_reducible apply Nm.mk); focus ((try simp only [lns, beN_len, hel, hm, e25]); exact rfl)) | ((with_reducible apply Wr.i64); focus omega) | ((with_reducible apply Need.mk); focus first | (simp only [lns, beN_len, hel, hm, e25]; omega) | kernel_rfl) | ((with_reducible apply Elem.lst); focus omega) | (apply CallN.mk (co)) | (with_reducible apply Bif.F) | ((with_reducible apply Bif.dec) <;> intro h <;> (try simp only [lns, beN_len, hel, hm, e25] at h) <;> (try (exfalso; omega))) | (with_reducible apply Bif.not) | (with_reducible apply Frz.l)) <;> conv => whnf) | fail)
        (refine ⟨(⟨i + 1, Y, pr, s, B, got, by omega, vY, hpr, hlast, st, hs, hdnS k hkn hsn hk2⟩ : HopI D u m), ?_⟩; (try dsimp only); conv => whnf); repeat' (first | with_reducible apply True.intro | ((first | ((with_reducible apply Need.mk); focus omega) | (with_reducible apply Same.rfl) | (apply Same.int; focus rfl) | (with_reducible apply Turn.l) | (with_reducible apply Frz.l)) <;> conv => whnf) | fail)
    · rw [if_neg hsn] at co
      have hsf := hnew k hkn hsn
      have hfld := D.fields hkn
      have cF := k_fDecD (gt D.f k) (D.ok hkn) (by rw [hfld.2, e3]; decide)
      have cA : Con Tryz.prog 43 [.fs .no 10 (lst bufV B), lnkV D0, lnkV D1, frgV (gt D.f k), int now] [] (addV (addM B (lnk D0) (lnk D1) (gt D.f k) now)) [] := k_xAdd B .no st.siz (lnk D0) (lnk D1) (gt D.f k) (by have := D.dlen hkn; omega) now
      have v4 : VG ⟨Y.ctr, Y.res, Y.nonce, [accM pr (k + 1)]⟩ := ⟨vY.le, vY.res, vY.non, by show (1 : Nat) ≤ 1; decide, fun x h => by
        rw [List.mem_singleton] at h
        subst h
        exact acc_ok (vY.odd pr (by rw [hpr]; simp)) (by omega) hsn⟩
      have l4 := acc_last hlast (c := k + 1) (by omega)
      have s4 := hsee k hkn
      have d4 := hdn k hkn hk2
      by_cases ha : (s.set k true).all id = true
      · obtain ⟨a, rfl, st'⟩ := st.full hu hT hun hkn hsf ha
        rw [e1, e2, e4] at a
        rw [a] at cA
        change Con _ _ _ _ (.tup [.fs .no 10 (lst bufV []), bys b, int 0]) _ at cA
        by_cases him : i < m
        · have c4 := hMod him
          repeat' (first | ((first | ((with_reducible apply Nm.mk); focus ((try simp only [lns, beN_len, hel, hm]); exact rfl)) | ((with_reducible apply Wr.i64); focus omega) | ((with_reducible apply Need.mk); focus first | (simp only [lns, beN_len, hel, hm]; omega) | kernel_rfl) | ((with_reducible apply Elem.lst); focus omega) | (apply CallN.mk (c4)) | (apply CallN.mk (co)) | (apply CallN.mk (cF)) | (apply CallN.le (cA); focus ((repeat' (first | (with_reducible apply ArgLe.nil) | (exact ArgLe.nil) | (exact ArgLe.rfl) | (exact ArgLe.fs) | (exact True.intro) | (apply And.intro) | (apply Wk.arg; repeat' (first | (exact Wk.rfl) | (exact Wk.nilS) | (exact Wk.tag) | (apply Wk.cons) | (apply Wk.lits) | (exact WkL.nil) | (apply WkL.cons) | fail)) | fail)); done)) | (apply CallN.le (cD); focus ((repeat' (first | (with_reducible apply ArgLe.nil) | (exact ArgLe.nil) | (exact ArgLe.rfl) | (exact ArgLe.fs) | (exact True.intro) | (apply And.intro) | (apply Wk.arg; repeat' (first | (exact Wk.rfl) | (exact Wk.nilS) | (exact Wk.tag) | (apply Wk.cons) | (apply Wk.lits) | (exact WkL.nil) | (apply WkL.cons) | fail)) | fail)); done)) | (apply CallN.le (cS); focus ((repeat' (first | (with_reducible apply ArgLe.nil) | (exact ArgLe.nil) | (exact ArgLe.rfl) | (exact ArgLe.fs) | (exact True.intro) | (apply And.intro) | (apply Wk.arg; repeat' (first | (exact Wk.rfl) | (exact Wk.nilS) | (exact Wk.tag) | (apply Wk.cons) | (apply Wk.lits) | (exact WkL.nil) | (apply WkL.cons) | fail)) | fail)); done)) | (with_reducible first | apply Bif.T | apply Bif.F) | ((with_reducible first | apply Bif.dec | apply Bif.bne) <;> intro h <;> (try simp only [lns, beN_len, hel, hm] at h) <;> (try (exfalso; omega))) | (with_reducible apply Bif.not) | (with_reducible apply Frz.l)) <;> conv => whnf) | fail)
          (refine ⟨(⟨i + 1, ⟨Y.ctr, Y.res, Y.nonce, [accM pr (k + 1)]⟩, accM pr (k + 1), s.set k true, [], 1, by omega, v4, rfl, l4, st', s4, d4⟩ : HopI D u m), ?_⟩; (try dsimp only); conv => whnf); repeat' (first | with_reducible apply True.intro | ((first | ((with_reducible apply Need.mk); focus omega) | (with_reducible apply Same.rfl) | (apply Same.int; focus rfl) | (with_reducible apply Turn.l) | (with_reducible apply Frz.l)) <;> conv => whnf) | fail)
        · have e25 := hidx (by omega)
          repeat' (first | ((first | ((with_reducible apply Nm.mk); focus ((try simp only [lns, beN_len, hel, hm, e25]); exact rfl)) | ((with_reducible apply Wr.i64); focus omega) | ((with_reducible apply Need.mk); focus first | (simp only [lns, beN_len, hel, hm, e25]; omega) | kernel_rfl) | ((with_reducible apply Elem.lst); focus omega) | (apply CallN.mk (co)) | (apply CallN.mk (cF)) | (apply CallN.le (cA); focus ((repeat' (first | (with_reducible apply ArgLe.nil) | (exact ArgLe.nil) | (exact ArgLe.rfl) | (exact ArgLe.fs) | (exact True.intro) | (apply And.intro) | (apply Wk.arg; repeat' (first | (exact Wk.rfl) | (exact Wk.nilS) | (exact Wk.tag) | (apply Wk.cons) | (apply Wk.lits) | (exact WkL.nil) | (apply WkL.cons) | fail)) | fail)); done)) | (apply CallN.le (cD); focus ((repeat' (first | (with_reducible apply ArgLe.nil) | (exact ArgLe.nil) | (exact ArgLe.rfl) | (exact ArgLe.fs) | (exact True.intro) | (apply And.intro) | (apply Wk.arg; repeat' (first | (exact Wk.rfl) | (exact Wk.nilS) | (exact Wk.tag) | (apply Wk.cons) | (apply Wk.lits) | (exact WkL.nil) | (apply WkL.cons) | fail)) | fail)); done)) | (apply CallN.le (cS); focus ((repeat' (first | (with_reducible apply ArgLe.nil) | (exact ArgLe.nil) | (exact ArgLe.rfl) | (exact ArgLe.fs) | (exact True.intro) | (apply And.intro) | (apply Wk.arg; repeat' (first | (exact Wk.rfl) | (exact Wk.nilS) | (exact Wk.tag) | (apply Wk.cons) | (apply Wk.lits) | (exact WkL.nil) | (apply WkL.cons) | fail)) | fail)); done)) | (with_reducible first | apply Bif.T | apply Bif.F) | ((with_reducible first | apply Bif.dec | apply Bif.bne) <;> intro h <;> (try simp only [lns, beN_len, hel, hm, e25] at h) <;> (try (exfalso; omega))) | (with_reducible apply Bif.not) | (with_reducible apply Frz.l)) <;> conv => whnf) | fail)
          (refine ⟨(⟨i + 1, ⟨Y.ctr, Y.res, Y.nonce, [accM pr (k + 1)]⟩, accM pr (k + 1), s.set k true, [], 1, by omega, v4, rfl, l4, st', s4, d4⟩ : HopI D u m), ?_⟩; (try dsimp only); conv => whnf); repeat' (first | with_reducible apply True.intro | ((first | ((with_reducible apply Need.mk); focus omega) | (with_reducible apply Same.rfl) | (apply Same.int; focus rfl) | (with_reducible apply Turn.l) | (with_reducible apply Frz.l)) <;> conv => whnf) | fail)
      · have ha := Bool.eq_false_iff.2 ha
        obtain ⟨a, st'⟩ := st.more hu hT hun hkn hsf ha
        rw [e1, e2] at a
        rw [a] at cA
        change Con _ _ _ _ (.tup [.fs .no 10 (lst bufV [D.buf (s.set k true) u]), bys [], int 0]) _ at cA
        by_cases him : i < m
        · have c4 := hMod him
          repeat' (first | ((first | ((with_reducible apply Nm.mk); focus ((try simp only [lns, beN_len, hel, hm]); exact rfl)) | ((with_reducible apply Wr.i64); focus omega) | ((with_reducible apply Need.mk); focus first | (simp only [lns, beN_len, hel, hm]; omega) | kernel_rfl) | ((with_reducible apply Elem.lst); focus omega) | (apply CallN.mk (c4)) | (apply CallN.mk (co)) | (apply CallN.mk (cF)) | (apply CallN.le (cA); focus ((repeat' (first | (with_reducible apply ArgLe.nil) | (exact ArgLe.nil) | (exact ArgLe.rfl) | (exact ArgLe.fs) | (exact True.intro) | (apply And.intro) | (apply Wk.arg; repeat' (first | (exact Wk.rfl) | (exact Wk.nilS) | (exact Wk.tag) | (apply Wk.cons) | (apply Wk.lits) | (exact WkL.nil) | (apply WkL.cons) | fail)) | fail)); done)) | (with_reducible first | apply Bif.T | apply Bif.F) | ((with_reducible first | apply Bif.dec | apply Bif.bne) <;> intro h <;> (try simp only [lns, beN_len, hel, hm] at h) <;> (try (exfalso; omega))) | (with_reducible apply Bif.not) | (with_reducible apply Frz.l)) <;> conv => whnf) | fail)
          (refine ⟨(⟨i + 1, ⟨Y.ctr, Y.res, Y.nonce, [accM pr (k + 1)]⟩, accM pr (k + 1), s.set k true, [D.buf (s.set k true) u], got, by omega, v4, rfl, l4, st', s4, d4⟩ : HopI D u m), ?_⟩; (try dsimp only); conv => whnf); repeat' (first | with_reducible apply True.intro | ((first | ((with_reducible apply Need.mk); focus omega) | (with_reducible apply Same.rfl) | (apply Same.int; focus rfl) | (with_reducible apply Turn.l) | (with_reducible apply Frz.l)) <;> conv => whnf) | fail)
        · have e25 := hidx (by omega)
          repeat' (first | ((first | ((with_reducible apply Nm.mk); focus ((try simp only [lns, beN_len, hel, hm, e25]); exact rfl)) | ((with_reducible apply Wr.i64); focus omega) | ((with_reducible apply Need.mk); focus first | (simp only [lns, beN_len, hel, hm, e25]; omega) | kernel_rfl) | ((with_reducible apply Elem.lst); focus omega) | (apply CallN.mk (co)) | (apply CallN.mk (cF)) | (apply CallN.le (cA); focus ((repeat' (first | (with_reducible apply ArgLe.nil) | (exact ArgLe.nil) | (exact ArgLe.rfl) | (exact ArgLe.fs) | (exact True.intro) | (apply And.intro) | (apply Wk.arg; repeat' (first | (exact Wk.rfl) | (exact Wk.nilS) | (exact Wk.tag) | (apply Wk.cons) | (apply Wk.lits) | (exact WkL.nil) | (apply WkL.cons) | fail)) | fail)); done)) | (with_reducible first | apply Bif.T | apply Bif.F) | ((with_reducible first | apply Bif.dec | apply Bif.bne) <;> intro h <;> (try simp only [lns, beN_len, hel, hm, e25] at h) <;> (try (exfalso; omega))) | (with_reducible apply Bif.not) | (with_reducible apply Frz.l)) <;> conv => whnf) | fail)
          (refine ⟨(⟨i + 1, ⟨Y.ctr, Y.res, Y.nonce, [accM pr (k + 1)]⟩, accM pr (k + 1), s.set k true, [D.buf (s.set k true) u], got, by omega, v4, rfl, l4, st', s4, d4⟩ : HopI D u m), ?_⟩; (try dsimp only); conv => whnf); repeat' (first | with_reducible apply True.intro | ((first | ((with_reducible apply Need.mk); focus omega) | (with_reducible apply Same.rfl) | (apply Same.int; focus rfl) | (with_reducible apply Turn.l) | (with_reducible apply Frz.l)) <;> conv => whnf) | fail)
  · obtain ⟨rfl, rfl⟩ := st.done fun j hj => hd j (by omega)
    repeat' (first | with_reducible apply True.intro | ((first | ((with_reducible apply Nm.mk); focus ((try simp only [lns, beN_len, hel, hm]); exact rfl)) | ((with_reducible apply Wr.i64); focus omega) | (apply CallN.mk (k_sane)) | (with_reducible apply Bif.T) | ((with_reducible first | apply Bif.dec | apply Bif.beq) <;> intro h <;> (try simp only [lns, beN_len, hel, hm] at h) <;> (try (exfalso; omega))) | (apply Same.rfl) | (with_reducible apply Frz.l)) <;> conv => whnf) | fail)
    done
end Go.Fw

/- What comes in: numbers. -/
namespace Go.Fw
set_option maxRecDepth 4000
open Go.Proofs
theorem shp_int {t d : Nat} {s : SV} (ht : tt t = .int .i64) (h : Shp Tryz.prog tt (d + 1) t s) : ∃ n, s = int n ∧ -9223372036854775808 ≤ n ∧ n ≤ 9223372036854775807 := by
  simp only [Shp, ht] at h
  obtain ⟨n, rfl, hn⟩ := h
  exact ⟨n, rfl, bounds_i64 hn⟩
theorem shp_ints {d : Nat} {s : SV} (h : Shp Tryz.prog tt (d + 2) 22 s) : ∃ l, s = .fs .no 1 (ints l) ∧ l.length ≤ maxLen := by
  obtain ⟨rows, rfl, hl, h⟩ := h
  obtain ⟨l, rfl, _⟩ := rows_of int (fun _ => True) fun r hr => let ⟨n, h1, _⟩ := shp_int (d := d) rfl (h 3 Tryz.underlying22 r hr); ⟨n, h1, trivial⟩
  exact ⟨l, rfl, by simpa using hl⟩
end Go.Fw
