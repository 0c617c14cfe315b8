/- TopReplays: the walk. -/
import Derived.Test.YtlkhjalnnciocaaGreatRepA
namespace Go.Fw
open Go.Proofs
set_option maxHeartbeats 8000000
set_option maxRecDepth 8000
def byT (b : List UInt8) : SV := .fs ⟨some 1, false⟩ 1 (lst b8 b)
theorem pay_set {n k : Nat} (h : k < n) (hk : k < 256) : (lst byT (payL k) ++ List.replicate (n - k) nilV).set k (.fs ⟨some 1, false⟩ 1 [.v (.int .u8 (k : Int))]) = lst byT (payL (k + 1)) ++ List.replicate (n - (k + 1)) nilV := by
  have e : byT [UInt8.ofNat k] = .fs ⟨some 1, false⟩ 1 [.v (.int .u8 (k : Int))] := by
    show SV.fs _ _ [.v (.int .u8 ((UInt8.ofNat k).toNat : Int))] = _
    rw [UInt8.toNat_ofNat', Nat.mod_eq_of_lt hk]
  rw [List.set_append_right _ _ (by rw [lst_len, payL_len]; exact Nat.le_refl _), lst_len, payL_len, Nat.sub_self, show n - k = n - (k + 1) + 1 by omega, List.replicate_succ, List.set_cons_zero, payL_succ, ← lst_app, List.append_assoc, ← e]
  rfl
theorem pay_get {n k : Nat} (h : k < n) : (lst byT (payL k) ++ List.replicate (n - k) nilV)[k]? = some nilV := by
  rw [List.getElem?_append_right (by rw [lst_len, payL_len]; exact Nat.le_refl _), lst_len, payL_len, Nat.sub_self, show n - k = n - (k + 1) + 1 by omega, List.replicate_succ]
  rfl
theorem k_sealedN (n : Nat) (hn : n ≤ 100) : Con Tryz.prog 9 [grdV (grd1 X0), int 0, int 1, .ov 1 0 0 n] [.arr (some n) 1 (lst byT (payL n) ++ List.replicate (n - n) nilV)]
    (.tup [grdV (gN (grd1 X0) n), .fs .no 1 (lst bys (encL (grd1 X0) (payL n) n)), bool true]) [] := by
  have hl := payL_len n
  have c := k_sealed (grd1 X0) (payL n) .no vg_X1 (by rw [hl]; show 1 + n ≤ 1048576; omega) (fun x hx => payL_le hx) (by omega)
  rw [hl] at c
  rw [Nat.sub_self, List.replicate_zero, List.append_nil]
  refine Con.give c (.cons .same (.cons .same (.cons .same (.cons (.fz (rs := lst byT (payL n)) (Nat.zero_le _) rfl (by rw [lst_len, hl]; omega) (by rw [List.drop_zero]; exact List.take_of_length_le (by rw [lst_len, hl]; exact Nat.le_refl _))) .nil))))
    ⟨ArgLe.rfl, ArgLe.rfl, ArgLe.rfl, (Wk.fs (by rw [lst_len, lst_len]) fun i s s' h1 h2 => ?_).arg, True.intro⟩ (fun s hs => ?_) rfl
  · simp only [lst, List.getElem?_map, Option.map_eq_some_iff] at h1 h2
    obtain ⟨x, e1, rfl⟩ := h1
    obtain ⟨y, e2, rfl⟩ := h2
    rw [e1] at e2
    cases e2
    exact .fs rfl fun i s s' h1 h2 => by rw [h1] at h2; cases h2; exact .rfl
  · simp only [List.mem_cons, List.not_mem_nil, or_false] at hs
    rcases hs with rfl | rfl | rfl | rfl
    · exact ⟨rfl, fun t e => by cases e⟩
    · exact ⟨rfl, fun t e => by cases e⟩
    · exact ⟨rfl, fun t e => by cases e⟩
    · exact ⟨rfl, fun t e => by cases e⟩
theorem k_TopReplays (t : List Int) (n0 a0 : Int) (hl : t.length ≤ 140737488355328) : Con Tryz.prog 4 [.fs .no 1 (ints t), int n0, int a0] [] (bool true) [] := by
  have c1 := k_made_Mod n0 20 (by decide)
  have r1 := modV_range (v := n0) (n := 20) (by decide)
  obtain ⟨n, hn⟩ : ∃ n : Nat, 1 + modV n0 20 = (n : Int) := ⟨(1 + modV n0 20).toNat, by omega⟩
  have hn' : modV n0 20 = (n : Int) - 1 := by omega
  rw [hn'] at c1 r1
  have hw : IntKind.wrap .i64 (1 + ((n : Int) - 1)) = (n : Int) := by rw [show 1 + ((n : Int) - 1) = (n : Int) by omega, wrap64_id (by omega)]
  have h0 : lst SV.v (List.replicate n (Value.slice none 0 0)) = lst byT (payL 0) ++ List.replicate (n - 0) nilV := by
    rw [show payL 0 = [] from rfl, Nat.sub_zero]
    show List.map SV.v _ = [] ++ _
    rw [List.map_replicate, List.nil_append]; rfl
  refine spec_of_run ttok mixed (T0 := 719204477212102835837258908948768146906415047) (ts := [.tmp 6]) 151 rfl rfl rfl rfl (by simp) rfl ?_
  conv => whnf
  repeat' (first | ((apply Wr.eq hw); (conv => whnf)) | ((first | (with_reducible apply Nm.rep _ (rfl)) | ((with_reducible apply Nm.mk); focus ((try simp only [lns]); exact rfl)) | ((with_reducible apply Need.mk); focus (unfold roomOK; simp only [lns]; omega)) | (apply CallN.mk (k_pair)) | (apply CallN.mk (c1)) | (with_reducible apply Frz.l)) <;> conv => whnf) | fail)
  refine loop_keep ttok mixed (T0 := 719204477212102835837258908948768146906415047) [0, 2, 7, 8, 9] (ι := {k : Nat // k ≤ n})
    (fun q => [(1, int (n : Int)), (10, .ov 1 2 0 n), (11, int (q.1 : Int))]) (fun q => [.cells (grdV (grd1 X0)), .cells (grdV Y1), .arr (some n) 1 (lst byT (payL q.1) ++ List.replicate (n - q.1) nilV)]) (fun q => n - q.1) ⟨0, by omega⟩ ?_
  conv => whnf
  repeat' (first | ((apply Same.mk (show SV.ov 1 2 0 n = SV.ov 1 2 0 n from rfl)); (conv => whnf)) | ((apply Same.mk h0); (conv => whnf)) | ((first | (with_reducible apply Same.rfl) | (apply Same.int; focus rfl) | (with_reducible apply Frz.l)) <;> conv => whnf) | fail)
  rintro ⟨k, hk⟩
  dsimp only
  conv => whnf
  by_cases hkn : k < n
  · have hlk : (lst byT (payL k) ++ List.replicate (n - k) nilV).length = n := by rw [List.length_append, lst_len, List.length_replicate, payL_len]; omega
    repeat' (first | ((refine ⟨nilV, pay_get hkn, ?_⟩); (conv => whnf)) | ((apply Nm.mk (pay_set hkn (by omega))); (conv => whnf)) | ((first | ((with_reducible apply Nm.mk); focus ((try simp only [lns, hlk]); exact rfl)) | ((with_reducible first | apply Wr.i64 | apply Wr.u8); focus omega) | ((with_reducible apply Need.mk); focus first | omega | (simp only [lns, hlk]; omega)) | ((with_reducible apply Bif.dec) <;> intro h <;> (try simp only [lns, hlk] at h) <;> (try (exfalso; omega))) | (with_reducible apply Frz.l)) <;> conv => whnf) | fail)
    (refine ⟨⟨k + 1, hkn⟩, ?_⟩; (try dsimp only); conv => whnf); repeat' (first | with_reducible apply True.intro | ((first | ((with_reducible apply Need.mk); focus omega) | (with_reducible apply Same.rfl) | (apply Same.int; focus rfl) | (with_reducible apply Turn.l) | (with_reducible apply Frz.l)) <;> conv => whnf) | fail)
  · obtain rfl : k = n := by omega
    have c2 := k_made_Mod a0 ((t.length : Int) + 1) (by omega)
    have r2 := modV_range (v := a0) (n := (t.length : Int) + 1) (by omega)
    obtain ⟨a, ha⟩ : ∃ a : Nat, modV a0 ((t.length : Int) + 1) = (a : Int) := ⟨(modV a0 ((t.length : Int) + 1)).toNat, by omega⟩
    rw [ha] at c2 r2
    have cs := k_sealedN k (by omega)
    repeat' (first | ((with_reducible apply GiveN.mk [3]); (conv => whnf)) | ((first | (with_reducible apply Nm.rep _ (int_mk _)) | ((with_reducible apply Nm.mk); focus ((try simp only [lns]); exact rfl)) | ((with_reducible apply Wr.i64); focus omega) | ((with_reducible apply Need.mk); focus (unfold roomOK; simp only [lns]; omega)) | (apply CallN.mk (cs)) | (apply CallN.mk (c2)) | (with_reducible first | apply Bif.T | apply Bif.F) | ((with_reducible apply Bif.dec) <;> intro h <;> (try simp only [lns] at h) <;> (try (exfalso; omega))) | (with_reducible apply Bif.not) | (with_reducible apply Frz.l)) <;> conv => whnf) | fail)
    have hX : (gN (grd1 X0) k).ctr = k + 1 := by show 0 + 1 + k = k + 1; omega
    refine loop_keep ttok mixed (T0 := 719204477212102835837258908948768146906415047) [0, 7, 8, 12] (ι := RpI k a)
      (fun q => [(1, int (k : Int)), (2, int (a : Int)), (14, .ov 1 3 0 k), (15, int (q.i : Int))]) (fun q => [.cells (grdV q.X), .cells (grdV q.Y), .gone, .arr (some k) 1 (ints q.C)]) (fun q => 120 - q.i)
      ⟨0, gN (grd1 X0) k, Y1, ⟨0, 4294967295⟩, List.replicate k 0, by omega, vg_X1.gN (by show 1 + k ≤ 1048576; omega), vg_Y1, rfl, by simp, fun _ => ⟨hX, rfl⟩, fun j hj => .inl (by simp [gt, hj])⟩ ?_
    conv => whnf
    repeat' (first | ((first | (with_reducible apply Same.rfl) | (apply Same.int; focus rfl) | (with_reducible apply Frz.l)) <;> conv => whnf) | fail)
    have d0 := k_device 0 (by decide)
    have d1 := k_device 1 (by decide)
    have hel := encL_len (grd1 X0) (payL k) k
    rintro q
    obtain ⟨i, X, Y, p, C, hi, vX, vY, hp, hC, hXa, hs⟩ := q
    dsimp only at hi vX vY hp hC hXa hs ⊢
    conv => whnf
    by_cases hit : (i : Int) < (t.length : Int) ∧ i < 120
    · obtain ⟨hit, h120⟩ := hit
      have c3 := k_made_Mod (gt t i) (k : Int) (by omega)
      have r3 := modV_range (v := gt t i) (n := (k : Int)) (by omega)
      obtain ⟨m, hm⟩ : ∃ m : Nat, modV (gt t i) (k : Int) = (m : Int) := ⟨(modV (gt t i) (k : Int)).toNat, by omega⟩
      rw [hm] at c3 r3
      have hmk : m < k := by omega
      have sf : SF (frI (grd1 X0) (payL k) m) := frI_SF vg_X1 (by show 1 + m ≤ 1048576; omega) (payL_le (gt_mem (by rw [payL_len]; exact hmk)))
      have hctr : (frI (grd1 X0) (payL k) m).ctr = m + 1 := by show 0 + 1 + m = m + 1; omega
      have hge : gt (encL (grd1 X0) (payL k) k) m = encM (frI (grd1 X0) (payL k) m) := gt_encL hmk
      by_cases hia : i = a
      · obtain ⟨x1, x2⟩ := hXa (by omega)
        have hr : X.ctr < X.res := by omega
        have cR : Con Tryz.prog 15 [grdV Y, .v (.int .u32 ((i : Int) + 100))] [] (grdV ⟨Y.res, Y.res, i + 100, []⟩) [] := by
          have := k_Restart Y (i + 100) vY
          rwa [show ((i + 100 : Nat) : Int) = (i : Int) + 100 by omega] at this
        have v2 : VG ⟨Y.res, Y.res, i + 100, []⟩ := ⟨Nat.le_refl _, vY.res, by show i + 100 ≤ _; omega, by show (0 : Nat) ≤ 1; decide, fun p h => by cases h⟩
        have v3 : VG ⟨Y.res, Y.res, i + 100, [⟨k + 1, 4294967295⟩]⟩ := ⟨Nat.le_refl _, vY.res, by show i + 100 ≤ _; omega, by show (1 : Nat) ≤ 1; decide, fun p h => by rw [List.mem_singleton] at h; subst h; exact ⟨by show (4294967295 : Nat) % 2 = 1; decide, by show (4294967295 : Nat) ≤ 4294967295; decide, by show k + 1 ≤ _; omega⟩⟩
        have cC := k_Challenge _ v2
        have cP := k_Respond (i + 100)
        have cS := k_Seal X (frmC (i + 100)) vX hr rfl rfl rfl rfl (pay_C _) (ok_C _)
        have cO := k_Open0 ⟨Y.res, Y.res, i + 100, []⟩ (sealM X (frmC (i + 100))) v2 rfl (SF.seal vX (ok_C _) (pay_C _) rfl) rfl rfl
        rw [show (sealM X (frmC (i + 100))).ctr = k + 1 from x1] at cO
        have co := k_opened _ _ _ v3 rfl sf
        rw [hctr, if_pos (seen_full (by omega) (by omega)), ← hge] at co
        repeat' (first | ((first | ((with_reducible apply Nm.mk); focus ((try simp only [lns, hel, hC]); exact rfl)) | ((with_reducible first | apply Wr.i64 | apply Wr.u32); focus omega) | ((with_reducible apply Need.mk); focus first | (simp only [lns, hel, hC]; omega) | kernel_rfl) | ((with_reducible apply Elem.lst); focus omega) | (apply CallN.mk (cR)) | (apply CallN.mk (cC)) | (apply CallN.mk (cP)) | (apply CallN.mk (d0)) | (apply CallN.mk (d1)) | (apply CallN.le (cS); focus ((repeat' (first | (with_reducible apply ArgLe.nil) | (exact ArgLe.nil) | (exact ArgLe.rfl) | (exact ArgLe.fs) | (exact True.intro) | (apply And.intro) | (apply Wk.arg; repeat' (first | (exact Wk.rfl) | (exact Wk.nilS) | (exact Wk.tag) | (apply Wk.cons) | (apply Wk.lits) | (exact WkL.nil) | (apply WkL.cons) | fail)) | fail)); done)) | (apply CallN.mk (cO)) | (apply CallN.mk (c3)) | (apply CallN.mk (co)) | (with_reducible first | apply Bif.T | apply Bif.F) | ((with_reducible first | apply Bif.dec | apply Bif.beq | apply Bif.bne) <;> intro h <;> (try simp only [lns, hel, hC] at h) <;> (try (exfalso; omega))) | (with_reducible apply Bif.not) | (with_reducible apply Frz.l)) <;> conv => whnf) | fail)
        (refine ⟨(⟨i + 1, grd1 X, ⟨Y.res, Y.res, i + 100, [⟨k + 1, 4294967295⟩]⟩, ⟨k + 1, 4294967295⟩, C, by omega, vX.grd1 hr, v3, rfl, hC, fun h => absurd h (by omega), fun j hj => (hs j hj).imp id fun h => ⟨h.1, seen_full (by omega) (by omega)⟩⟩ : RpI k a), ?_⟩; (try dsimp only); conv => whnf); repeat' (first | with_reducible apply True.intro | ((first | ((with_reducible apply Need.mk); focus omega) | (with_reducible apply Same.rfl) | (apply Same.int; focus rfl) | (with_reducible apply Turn.l) | (with_reducible apply Frz.l)) <;> conv => whnf) | fail)
      · have co := k_opened Y p _ vY hp sf
        rw [hctr, ← hge] at co
        by_cases hsn : seenP p (m + 1) = true
        · rw [if_pos hsn] at co
          repeat' (first | ((first | ((with_reducible apply Nm.mk); focus ((try simp only [lns, hel, hC]); exact rfl)) | ((with_reducible apply Wr.i64); focus omega) | ((with_reducible apply Need.mk); focus first | (simp only [lns, hel, hC]; omega) | kernel_rfl) | ((with_reducible apply Elem.lst); focus omega) | (apply CallN.mk (c3)) | (apply CallN.mk (co)) | (with_reducible first | apply Bif.T | apply Bif.F) | ((with_reducible first | apply Bif.dec | apply Bif.beq) <;> intro h <;> (try simp only [lns, hel, hC] at h) <;> (try (exfalso; omega))) | (with_reducible apply Frz.l)) <;> conv => whnf) | fail)
          (refine ⟨(⟨i + 1, X, Y, p, C, by omega, vX, vY, hp, hC, fun h => hXa (by omega), hs⟩ : RpI k a), ?_⟩; (try dsimp only); conv => whnf); repeat' (first | with_reducible apply True.intro | ((first | ((with_reducible apply Need.mk); focus omega) | (with_reducible apply Same.rfl) | (apply Same.int; focus rfl) | (with_reducible apply Turn.l) | (with_reducible apply Frz.l)) <;> conv => whnf) | fail)
        · rw [if_neg hsn] at co
          have hc0 : gt C m = 0 := by
            rcases hs m hmk with h | h
            · exact h
            · exact absurd h.2 hsn
          repeat' (first | ((first | (with_reducible apply Nm.set _ (int_mk _)) | ((with_reducible apply Nm.mk); focus ((try simp only [lns, hel, hC]); exact rfl)) | ((with_reducible apply Wr.i64); focus omega) | ((with_reducible apply Need.mk); focus first | omega | (simp only [lns, hel, hC]; omega) | kernel_rfl) | ((with_reducible apply Elem.lst); focus omega) | (apply CallN.mk (c3)) | (apply CallN.mk (co)) | (with_reducible apply Bif.T) | ((with_reducible first | apply Bif.dec | apply Bif.beq) <;> intro h <;> (try simp only [lns, hel, hC] at h) <;> (try (exfalso; omega))) | (with_reducible apply Frz.l)) <;> conv => whnf) | fail)
          have v4 : VG ⟨Y.ctr, Y.res, Y.nonce, [accM p (m + 1)]⟩ := ⟨vY.le, vY.res, vY.non, by show (1 : Nat) ≤ 1; decide, fun x h => by
            rw [List.mem_singleton] at h
            subst h
            exact acc_ok (vY.odd p (by rw [hp]; simp)) (by omega) hsn⟩
          (refine ⟨(⟨i + 1, X, ⟨Y.ctr, Y.res, Y.nonce, [accM p (m + 1)]⟩, accM p (m + 1), C.set m (gt C m + 1), by omega, vX, v4, rfl, by rw [List.length_set]; exact hC, fun h => hXa (by omega), fun j hj => by
              rw [gt_set (by omega)]
              by_cases hjm : j = m
              · rw [if_pos hjm, hc0, hjm]; exact .inr ⟨rfl, seen_self _ _⟩
              · rw [if_neg hjm]; exact (hs j hj).imp id fun h => ⟨h.1, seen_acc h.2⟩⟩ : RpI k a), ?_⟩; (try dsimp only); conv => whnf); repeat' (first | with_reducible apply True.intro | ((first | ((with_reducible apply Need.mk); focus omega) | (with_reducible apply Same.rfl) | (apply Same.int; focus rfl) | (with_reducible apply Turn.l) | (with_reducible apply Frz.l)) <;> conv => whnf) | fail)
    · have hcon : ∀ {P : Prop}, (i : Int) < (t.length : Int) → (i : Int) < 120 → P := fun h1 h2 => absurd ⟨h1, by omega⟩ hit
      repeat' (first | ((first | ((with_reducible apply Nm.mk); focus ((try simp only [lns]); exact rfl)) | (with_reducible first | apply Bif.T | apply Bif.F) | ((with_reducible apply Bif.dec) <;> intro h <;> (try simp only [lns] at h) <;> (try (exfalso; omega))) | (with_reducible apply Frz.l)) <;> conv => whnf) | fail)
      all_goals (
        refine loop_keep ttok mixed (T0 := 719204477212102835837258908948768146906415047) [] (ι := {j : Nat // j ≤ k})
          (fun q => [(1, int (k : Int)), (14, .ov 1 3 0 k), (25, int (q.1 : Int))]) (fun q => [.cells (grdV X), .cells (grdV Y), .gone, .arr (some k) 1 (ints C)]) (fun q => k - q.1) ⟨0, by omega⟩ ?_
        conv => whnf
        repeat' (first | ((first | (with_reducible apply Same.rfl) | (apply Same.int; focus rfl) | (with_reducible apply Frz.l)) <;> conv => whnf) | fail)
        rintro ⟨j, hj⟩
        dsimp only
        conv => whnf
        by_cases hjk : j < k
        · have hb : gt C j ≤ 1 := by
            rcases hs j hjk with h | h
            · omega
            · have := h.1; omega
          repeat' (first | ((first | ((with_reducible apply Nm.mk); focus ((try simp only [lns, hC]); exact rfl)) | ((with_reducible apply Wr.i64); focus omega) | ((with_reducible apply Need.mk); focus omega) | ((with_reducible apply Elem.lst); focus omega) | ((with_reducible apply Bif.dec) <;> intro h <;> (try simp only [lns, hC] at h) <;> (try (exfalso; omega))) | (with_reducible apply Frz.l)) <;> conv => whnf) | fail)
          (refine ⟨⟨j + 1, hjk⟩, ?_⟩; (try dsimp only); conv => whnf); repeat' (first | with_reducible apply True.intro | ((first | ((with_reducible apply Need.mk); focus omega) | (with_reducible apply Same.rfl) | (apply Same.int; focus rfl) | (with_reducible apply Turn.l) | (with_reducible apply Frz.l)) <;> conv => whnf) | fail)
        · repeat' (first | with_reducible apply True.intro | ((first | (apply CallN.mk (k_sane)) | ((with_reducible apply Bif.dec) <;> intro h <;> (try simp only [lns, hC] at h) <;> (try (exfalso; omega))) | (with_reducible apply Same.rfl) | (with_reducible apply Frz.l)) <;> conv => whnf) | fail))
  done
end Go.Fw
