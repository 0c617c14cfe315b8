/- RegistrationNewest: the walk. -/
import Derived.Test.YtlddbblbjddckaaDoorRegK
namespace Go.Fw
open Go.Proofs
set_option maxHeartbeats 16000000
set_option maxRecDepth 4000
theorem Sub.forget {n : Sz} {e : List (Nat × SV)} {h : List OB} (k : Nat) {c E : Nat} {rows : List SV} (hk : h[k]? = some (.arr (some c) E rows)) : Sub n e h e (h.set k (.arr none E rows)) := by
  intro B cx a w hB hs
  have hl : Live cx w k (.arr none E rows) := by
    rcases hs.mem.live k _ (by rw [nthB_eq]; exact hk) with ⟨b, C, a1, a2, vs, T, a3, a4, a5, a6⟩ | ⟨a1, E', a2⟩
    · exact .inl ⟨b, C, a1, a2, vs, T, a3, a4, ⟨a5.le, fun c hc => by (cases hc), a5.ones⟩, a6⟩
    · refine .inr ⟨a1, E', ?_⟩
      simp only [OB.arr.injEq] at a2 ⊢
      exact ⟨rfl, a2.2.1, a2.2.2⟩
  exact ⟨cx, hs.df, hs.sz, hs.sl, mem_turn hs.mem hk (by simp) hl, hs.fr⟩
/-- Ahead of a loop: the room of an array is forgotten. -/
theorem LoopN.forget {P : Program} {n : Sz} {c : Code} {e : List (Nat × SV)} {h : List OB} {K : Exit → List (Nat × SV) → List OB → Prop} (k : Nat) {cap E : Nat} {rows : List SV} (hk : h[k]? = some (.arr (some cap) E rows))
    (hl : LoopN P n c e (h.set k (.arr none E rows)) K) : LoopN P n c e h K := by
  rw [loopN_iff] at hl ⊢
  obtain ⟨x, e', h', h1, h2⟩ := hl
  refine ⟨x, e', h', h1, fun B cx a w Q hB hs hK => ?_⟩
  obtain ⟨cx1, hs1⟩ := Sub.forget (n := n) (e := e) k hk B cx a w hB hs
  exact h2 B cx1 a w Q hB hs1 hK
theorem incs_add (a : Int) (n : Nat) : ∀ d, incs (incs a n) d = incs a (n + d)
  | 0 => rfl
  | d + 1 => by show incC (incs (incs a n) d) = incC (incs a (n + d)); rw [incs_add a n d]
/-- The counters, one after the other. -/
def cntL (s : Int) (n : Nat) : List Int := (List.range n).map (incs s)
theorem cntL_len (s : Int) (n : Nat) : (cntL s n).length = n := by simp [cntL]
theorem cntL_gt {s : Int} {n i : Nat} (h : i < n) : gt (cntL s n) i = incs s i := by
  rw [gt_eq (by rw [cntL_len]; exact h)]; simp [cntL]
theorem cntL_snoc (s : Int) (n : Nat) : cntL s (n + 1) = cntL s n ++ [incs s n] := by simp [cntL, List.range_succ]
def newE (s : Int) (w : Nat) (u : Int) : Reg := ⟨ip0, 5, incs s w, ⟨2, w, 0⟩, 1, u⟩
def newL (s : Int) (w u : Int) : List Reg := if w < 0 then [] else [newE s w.toNat u]
theorem validR_one {r : Reg} (h : regOK r = true) : validR [r] = true := by
  refine (okL_tt (by simp) fun i hi => ?_).symm
  have : i = 0 := by simpa using hi
  subst this
  exact ⟨h, fun h0 => absurd h0 (by omega)⟩
theorem newE_ok {s : Int} {w : Nat} {u : Int} (hw : w < 16) (hu : 0 ≤ u ∧ u ≤ 1099511627776) : regOK (newE s w u) = true :=
  regOK_iff.2 ⟨by show gt ip0.1 0 ≠ 255; decide, by simp [oneA, newE]; omega, .inl rfl, hu⟩
theorem newL_tab {s w u : Int} (hs : 0 ≤ s ∧ s ≤ 255) (hw : w < 16) (hu : 0 ≤ u ∧ u ≤ 1099511627776) : TabR (newL s w u) := by
  unfold newL
  split
  · exact TabR.nil
  · refine ⟨validR_one (newE_ok (by omega) hu), fun r hr => ?_⟩
    rw [List.mem_singleton.1 hr]; exact incs_range hs _
theorem at_one (e : Reg) (hv : validR [e] = true) : fndR [e] e.ip = true ∧ atR [e] e.ip = 0 := by
  obtain ⟨h1, h2⟩ := fnd_mem hv (List.mem_singleton.2 rfl)
  have := (fndR_iff.1 h1).1
  simp only [List.length_singleton] at this
  exact ⟨h1, by omega⟩
theorem newest_step {s w u k now : Int} (hs : 0 ≤ s ∧ s ≤ 255) (hw : -1 ≤ w ∧ w < 16) (hk : 0 ≤ k ∧ k < 16) (hn : 0 ≤ now ∧ now < 60) (hu : 100 ≤ u ∧ u ≤ 1000) :
    regM (newL s w u) ip0 ⟨5, incs s k.toNat, 0, 500⟩ ⟨2, k, 0⟩ now = (newL s (max w k) (if k < w then u else now + 500), if k < w then 3 else 0, 0) := by
  have hT := newL_tab (w := w) (u := u) hs hw.2 (by omega)
  have hone : oneA ⟨2, k, 0⟩ = true := by simp [oneA]; omega
  have hmin : min (now + 500) 1099511627776 = now + 500 := by omega
  obtain ⟨e1, _⟩ := hT.reg (a := ip0) (o := ⟨5, incs s k.toNat, 0, 500⟩) (k := ⟨2, k, 0⟩) (now := now) (by decide) hone ⟨by omega, by omega⟩ ⟨incs_range hs _, by dsimp only; omega⟩
  rw [e1]
  by_cases h0 : w < 0
  · have : newL s w u = [] := by rw [newL, if_pos h0]
    rw [this, show curR [] now = [] from rfl, askR_nil (by dsimp only; omega), if_neg (by omega), if_neg (by omega), newL, if_neg (by omega), show max w k = k by omega]
    simp only [newR, newE, hmin]
    rw [show ((k.toNat : Nat) : Int) = k by omega]
  · have hL : newL s w u = [newE s w.toNat u] := by rw [newL, if_neg h0]
    rw [hL] at hT ⊢
    have hc : curR [newE s w.toNat u] now = [newE s w.toNat u] := by
      have : (newE s w.toNat u).upto > now := by show u > now; omega
      simp [curR, this]
    obtain ⟨f1, f2⟩ := at_one _ hT.valid
    have f1 : fndR [newE s w.toNat u] ip0 = true := f1
    have f2 : atR [newE s w.toNat u] ip0 = 0 := f2
    have g : gt [newE s w.toNat u] 0 = newE s w.toNat u := rfl
    rw [hc, askR, if_pos f1, f2, g, if_neg (by show ¬ (5 : Int) ≠ 5; omega)]
    have q : (newE s w.toNat u).seq = incs s w.toNat := rfl
    rw [q]
    by_cases h1 : k < w
    · obtain ⟨i1, i2, i3, _⟩ := incs_newer (a := incs s k.toNat) (n := w.toNat - k.toNat) (incs_range hs _) (by omega)
      rw [incs_add, show k.toNat + (w.toNat - k.toNat) = w.toNat by omega] at i2 i3
      rw [if_pos ⟨i3, i2⟩, if_pos h1, if_pos h1, show max w k = w by omega, newL, if_neg h0]
    · have hno : ¬ (incs s w.toNat ≠ incs s k.toNat ∧ newerC (incs s k.toNat) (incs s w.toNat) = false) := by
        rintro ⟨j1, j2⟩
        by_cases h2 : k = w
        · exact j1 (by rw [h2])
        · obtain ⟨i1, _⟩ := incs_newer (a := incs s w.toNat) (n := k.toNat - w.toNat) (incs_range hs _) (by omega)
          rw [incs_add, show w.toNat + (k.toNat - w.toNat) = k.toNat by omega, j2] at i1
          cases i1
      rw [if_neg hno, if_neg (by show ¬ (500 : Int) = 0; omega), if_neg h1, if_neg h1, show max w k = k by omega, newL, if_neg (by omega)]
      simp only [List.set_cons_zero, setR, newE, hmin]
      rw [show ((k.toNat : Nat) : Int) = k by omega]
structure NewI (n : Int) where
  i : Nat
  w : Int
  u : Int
  hi : i ≤ 60
  hw : -1 ≤ w ∧ w < n
  hu : 100 ≤ u ∧ u ≤ 1000
theorem k_RegistrationNewest (order : List Int) (s n0 : Int) (hs : 0 ≤ s ∧ s ≤ 255) : Con Tryd.prog 7 [.fs .no 1 (ints order), .v (.int .u8 s), int n0] [] (bool true) [] := by
  have m1 := modV_range (v := n0) (n := 15) (by omega)
  have cM := k_made_Mod n0 15 (by omega)
  generalize modV n0 15 = m at *
  refine spec_of_run ttok mixed (T0 := 5192298096474866913919567338274759) (ts := [.tmp 6]) 115 rfl rfl rfl rfl (by simp) rfl ?_
  conv => whnf
  repeat' (first | with_reducible apply True.intro | ((first | (with_reducible first | apply Nm.set _ (int_mk _) | apply Nm.snoc _ (int_mk _) | apply Nm.rep _ (int_mk _) | apply Nm.set _ (bool_mk _) | apply Nm.snoc _ (bool_mk _) | apply Nm.rep _ (bool_mk _) | apply Nm.set _ (rfl) | apply Nm.snoc _ (rfl) | apply Nm.rep _ (rfl)) | ((with_reducible apply Nm.mk); focus ((try simp only [lns, ipRows_take]); exact rfl)) | ((with_reducible first | apply Wr.i64 | apply Wr.u8 | apply Wr.u16 | apply Wr.u32 | apply Wr.u64); focus omega) | ((with_reducible apply Need.mk); focus first | omega | (simp only [lns, ipRows_take]; omega) | exact List.cons_ne_nil _ _ | exact CleanP.nil rfl | exact CleanP.cell rfl rfl | exact CleanP.lst rfl (fun _ => rfl) | exact CleanP.lst2 rfl (fun _ => rfl) (fun _ => rfl) | kernel_rfl | (dsimp only; omega) | (unfold roomOK; simp only [lns, ipRows_take]; omega)) | ((with_reducible apply Elem.lst); focus first | omega | (simp only [lns, ipRows_take]; omega)) | (apply CallN.mk (cM)) | (with_reducible first | apply Bif.T | apply Bif.F) | ((with_reducible first | apply Bif.dec | apply Bif.beq | apply Bif.bne) <;> intro h <;> (try simp only [lns, ipRows_take] at h) <;> (try first | (exfalso; omega) | (exact absurd True.intro h))) | (with_reducible first | apply Bif.not | apply Bif.and | apply Bif.or) | ((with_reducible apply Bif.mk) <;> intro h <;> (try first | (exfalso; omega) | (exact absurd True.intro h))) | (with_reducible apply Same.rfl) | (apply Same.int; focus first | rfl | omega | (dsimp only; omega) | (simp only [lns, ipRows_take]; omega)) | (apply Same.bool; focus (with_reducible rfl)) | (apply Same.ov; (focus first | rfl | omega | (simp only [lns, ipRows_take]; omega)); focus first | rfl | omega | (simp only [lns, ipRows_take]; first | done | omega)) | ((with_reducible apply Same.mk); focus first | omega | (simp only [lns, ipRows_take]; omega)) | (apply Same.rfl) | (with_reducible first | apply Alt.l | apply Sl3.l | apply Cut.l | apply Turn.l | apply GiveN.lend)) <;> conv => whnf) | fail)
  refine LoopN.forget 0 rfl ?_
  refine loop_keep ttok mixed (T0 := 5192298096474866913919567338274759) [0, 2] (ι := {k : Nat // 1 ≤ k ∧ (k : Int) ≤ 2 + m})
    (fun k => [(7, .ov 1 0 0 (cntL s k.1).length), (8, int (k.1 : Int))]) (fun k => [.arr none 1 (lst u8 (cntL s k.1))]) (fun k => (2 + m).toNat - k.1) ⟨1, by omega, by omega⟩ ?_
  conv => whnf
  repeat' (first | with_reducible apply True.intro | ((apply Same.mk rfl); conv => whnf) | ((first | (with_reducible first | apply Nm.set _ (int_mk _) | apply Nm.snoc _ (int_mk _) | apply Nm.rep _ (int_mk _) | apply Nm.set _ (bool_mk _) | apply Nm.snoc _ (bool_mk _) | apply Nm.rep _ (bool_mk _) | apply Nm.set _ (rfl) | apply Nm.snoc _ (rfl) | apply Nm.rep _ (rfl)) | ((with_reducible apply Nm.mk); focus ((try simp only [lns, ipRows_take]); exact rfl)) | ((with_reducible first | apply Wr.i64 | apply Wr.u8 | apply Wr.u16 | apply Wr.u32 | apply Wr.u64); focus omega) | ((with_reducible apply Need.mk); focus first | omega | (simp only [lns, ipRows_take]; omega) | exact List.cons_ne_nil _ _ | exact CleanP.nil rfl | exact CleanP.cell rfl rfl | exact CleanP.lst rfl (fun _ => rfl) | exact CleanP.lst2 rfl (fun _ => rfl) (fun _ => rfl) | kernel_rfl | (dsimp only; omega) | (unfold roomOK; simp only [lns, ipRows_take]; omega)) | ((with_reducible apply Elem.lst); focus first | omega | (simp only [lns, ipRows_take]; omega)) | (with_reducible first | apply Bif.T | apply Bif.F) | ((with_reducible first | apply Bif.dec | apply Bif.beq | apply Bif.bne) <;> intro h <;> (try simp only [lns, ipRows_take] at h) <;> (try first | (exfalso; omega) | (exact absurd True.intro h))) | (with_reducible first | apply Bif.not | apply Bif.and | apply Bif.or) | ((with_reducible apply Bif.mk) <;> intro h <;> (try first | (exfalso; omega) | (exact absurd True.intro h))) | (with_reducible apply Same.rfl) | (apply Same.int; focus first | rfl | omega | (dsimp only; omega) | (simp only [lns, ipRows_take]; omega)) | (apply Same.bool; focus (with_reducible rfl)) | (apply Same.ov; (focus first | rfl | omega | (simp only [lns, ipRows_take]; omega)); focus first | rfl | omega | (simp only [lns, ipRows_take]; first | done | omega)) | ((with_reducible apply Same.mk); focus first | omega | (simp only [lns, ipRows_take]; omega)) | (apply Same.rfl) | (with_reducible first | apply Alt.l | apply Sl3.l | apply Cut.l | apply Turn.l | apply GiveN.lend)) <;> conv => whnf) | fail)
  rintro ⟨k, hk1, hk⟩
  dsimp only
  have hc := cntL_len s k
  conv => whnf
  by_cases hkl : (k : Int) < 2 + m
  · have e1 : ((k : Int) - 1).toNat = k - 1 := by omega
    have g1 : gt (cntL s k) (k - 1) = incs s (k - 1) := cntL_gt (by omega)
    have cI := k_rInc (incs s (k - 1)) (incs_range hs _)
    have hI : incC (incs s (k - 1)) = incs s k := by
      have : incs s (k - 1 + 1) = incC (incs s (k - 1)) := rfl
      rw [← this, show k - 1 + 1 = k by omega]
    rw [hI, ← g1] at cI
    have hsn := cntL_snoc s k
    repeat' (first | with_reducible apply True.intro | ((first | (with_reducible first | apply Nm.set _ (u8_mk _) | apply Nm.snoc _ (u8_mk _) | apply Nm.rep _ (u8_mk _) | apply Nm.set _ (int_mk _) | apply Nm.snoc _ (int_mk _) | apply Nm.rep _ (int_mk _) | apply Nm.set _ (bool_mk _) | apply Nm.snoc _ (bool_mk _) | apply Nm.rep _ (bool_mk _) | apply Nm.set _ (rfl) | apply Nm.snoc _ (rfl) | apply Nm.rep _ (rfl)) | ((with_reducible apply Nm.mk); focus ((try simp only [lns, ipRows_take, e1]); exact rfl)) | ((with_reducible first | apply Wr.i64 | apply Wr.u8 | apply Wr.u16 | apply Wr.u32 | apply Wr.u64); focus omega) | ((with_reducible apply Need.mk); focus first | omega | (simp only [lns, ipRows_take, e1]; omega) | exact List.cons_ne_nil _ _ | exact CleanP.nil rfl | exact CleanP.cell rfl rfl | exact CleanP.lst rfl (fun _ => rfl) | exact CleanP.lst2 rfl (fun _ => rfl) (fun _ => rfl) | kernel_rfl | (dsimp only; omega) | (unfold roomOK; simp only [lns, ipRows_take, e1]; omega)) | ((with_reducible apply Elem.lst); focus first | omega | (simp only [lns, ipRows_take, e1]; omega)) | (apply CallN.mk (cI)) | (with_reducible first | apply Bif.T | apply Bif.F) | ((with_reducible first | apply Bif.dec | apply Bif.beq | apply Bif.bne) <;> intro h <;> (try simp only [lns, ipRows_take, e1] at h) <;> (try first | (exfalso; omega) | (exact absurd True.intro h))) | (with_reducible first | apply Bif.not | apply Bif.and | apply Bif.or) | ((with_reducible apply Bif.mk) <;> intro h <;> (try first | (exfalso; omega) | (exact absurd True.intro h))) | (with_reducible apply Same.rfl) | (apply Same.int; focus first | rfl | omega | (dsimp only; omega) | (simp only [lns, ipRows_take, e1]; omega)) | (apply Same.bool; focus (with_reducible rfl)) | (apply Same.ov; (focus first | rfl | omega | (simp only [lns, ipRows_take, e1]; omega)); focus first | rfl | omega | (simp only [lns, ipRows_take, e1]; first | done | omega)) | ((with_reducible apply Same.mk); focus first | omega | (simp only [lns, ipRows_take, e1]; omega)) | (apply Same.rfl) | (with_reducible first | apply Alt.l | apply Sl3.l | apply Cut.l | apply Turn.l | apply GiveN.lend)) <;> conv => whnf) | fail)
    (refine ⟨⟨k + 1, by omega, by omega⟩, ?_⟩; (try dsimp only); conv => whnf); repeat' (first | with_reducible apply True.intro | ((with_reducible apply Same.mk); (focus (first | (rw [hsn]; done) | (rw [hsn]; simp; done) | (rw [hsn]; rfl) | fail)); (conv => whnf)) | ((first | (with_reducible first | apply Nm.set _ (int_mk _) | apply Nm.snoc _ (int_mk _) | apply Nm.rep _ (int_mk _) | apply Nm.set _ (bool_mk _) | apply Nm.snoc _ (bool_mk _) | apply Nm.rep _ (bool_mk _) | apply Nm.set _ (rfl) | apply Nm.snoc _ (rfl) | apply Nm.rep _ (rfl)) | ((with_reducible apply Nm.mk); focus ((try simp only [lns, ipRows_take]); exact rfl)) | ((with_reducible first | apply Wr.i64 | apply Wr.u8 | apply Wr.u16 | apply Wr.u32 | apply Wr.u64); focus omega) | ((with_reducible apply Need.mk); focus first | omega | (simp only [lns, ipRows_take]; omega) | exact List.cons_ne_nil _ _ | exact CleanP.nil rfl | exact CleanP.cell rfl rfl | exact CleanP.lst rfl (fun _ => rfl) | exact CleanP.lst2 rfl (fun _ => rfl) (fun _ => rfl) | kernel_rfl | (dsimp only; omega) | (unfold roomOK; simp only [lns, ipRows_take]; omega)) | ((with_reducible apply Elem.lst); focus first | omega | (simp only [lns, ipRows_take]; omega)) | (with_reducible first | apply Bif.T | apply Bif.F) | ((with_reducible first | apply Bif.dec | apply Bif.beq | apply Bif.bne) <;> intro h <;> (try simp only [lns, ipRows_take] at h) <;> (try first | (exfalso; omega) | (exact absurd True.intro h))) | (with_reducible first | apply Bif.not | apply Bif.and | apply Bif.or) | ((with_reducible apply Bif.mk) <;> intro h <;> (try first | (exfalso; omega) | (exact absurd True.intro h))) | (with_reducible apply Same.rfl) | (apply Same.int; focus first | rfl | omega | (dsimp only; omega) | (simp only [lns, ipRows_take]; omega)) | (apply Same.bool; focus (with_reducible rfl)) | (apply Same.ov; (focus first | rfl | omega | (simp only [lns, ipRows_take]; omega)); focus first | rfl | omega | (simp only [lns, ipRows_take]; first | done | omega)) | ((with_reducible apply Same.mk); focus first | omega | (simp only [lns, ipRows_take]; omega)) | (apply Same.rfl) | (with_reducible first | apply Alt.l | apply Sl3.l | apply Cut.l | apply Turn.l | apply GiveN.lend)) <;> conv => whnf) | fail)
  · have hkm : (k : Int) = 2 + m := by omega
    repeat' (first | with_reducible apply True.intro | ((first | (with_reducible first | apply Nm.set _ (int_mk _) | apply Nm.snoc _ (int_mk _) | apply Nm.rep _ (int_mk _) | apply Nm.set _ (bool_mk _) | apply Nm.snoc _ (bool_mk _) | apply Nm.rep _ (bool_mk _) | apply Nm.set _ (rfl) | apply Nm.snoc _ (rfl) | apply Nm.rep _ (rfl)) | ((with_reducible apply Nm.mk); focus ((try simp only [lns, ipRows_take]); exact rfl)) | ((with_reducible first | apply Wr.i64 | apply Wr.u8 | apply Wr.u16 | apply Wr.u32 | apply Wr.u64); focus omega) | ((with_reducible apply Need.mk); focus first | omega | (simp only [lns, ipRows_take]; omega) | exact List.cons_ne_nil _ _ | exact CleanP.nil rfl | exact CleanP.cell rfl rfl | exact CleanP.lst rfl (fun _ => rfl) | exact CleanP.lst2 rfl (fun _ => rfl) (fun _ => rfl) | kernel_rfl | (dsimp only; omega) | (unfold roomOK; simp only [lns, ipRows_take]; omega)) | ((with_reducible apply Elem.lst); focus first | omega | (simp only [lns, ipRows_take]; omega)) | (with_reducible first | apply Bif.T | apply Bif.F) | ((with_reducible first | apply Bif.dec | apply Bif.beq | apply Bif.bne) <;> intro h <;> (try simp only [lns, ipRows_take] at h) <;> (try first | (exfalso; omega) | (exact absurd True.intro h))) | (with_reducible first | apply Bif.not | apply Bif.and | apply Bif.or) | ((with_reducible apply Bif.mk) <;> intro h <;> (try first | (exfalso; omega) | (exact absurd True.intro h))) | (with_reducible apply Same.rfl) | (apply Same.int; focus first | rfl | omega | (dsimp only; omega) | (simp only [lns, ipRows_take]; omega)) | (apply Same.bool; focus (with_reducible rfl)) | (apply Same.ov; (focus first | rfl | omega | (simp only [lns, ipRows_take]; omega)); focus first | rfl | omega | (simp only [lns, ipRows_take]; first | done | omega)) | ((with_reducible apply Same.mk); focus first | omega | (simp only [lns, ipRows_take]; omega)) | (apply Same.rfl) | (with_reducible first | apply Alt.l | apply Sl3.l | apply Cut.l | apply Turn.l | apply GiveN.lend)) <;> conv => whnf) | fail)
    refine LoopN.adopt 10 23 rfl (by simp) ?_
    refine loop_keep ttok mixed (T0 := 5192298096474866913919567338274759) [0, 2] (ι := NewI k)
      (fun p => [(7, .ov 1 0 0 k), (9, .pb 1 []), (10, .ov 23 2 0 (newL s p.w p.u).length), (11, int p.w), (12, int (p.i : Int))])
      (fun p => [.arr none 1 (lst u8 (cntL s k)), .cells (ipV ip0), .arr none 23 (lst regV (newL s p.w p.u))]) (fun p => 60 - p.i) ⟨0, -1, 100, by omega, by omega, by omega⟩ ?_
    conv => whnf
    repeat' (first | with_reducible apply True.intro | ((apply Same.mk rfl); conv => whnf) | ((first | (with_reducible first | apply Nm.set _ (int_mk _) | apply Nm.snoc _ (int_mk _) | apply Nm.rep _ (int_mk _) | apply Nm.set _ (bool_mk _) | apply Nm.snoc _ (bool_mk _) | apply Nm.rep _ (bool_mk _) | apply Nm.set _ (rfl) | apply Nm.snoc _ (rfl) | apply Nm.rep _ (rfl)) | ((with_reducible apply Nm.mk); focus ((try simp only [lns, ipRows_take]); exact rfl)) | ((with_reducible first | apply Wr.i64 | apply Wr.u8 | apply Wr.u16 | apply Wr.u32 | apply Wr.u64); focus omega) | ((with_reducible apply Need.mk); focus first | omega | (simp only [lns, ipRows_take]; omega) | exact List.cons_ne_nil _ _ | exact CleanP.nil rfl | exact CleanP.cell rfl rfl | exact CleanP.lst rfl (fun _ => rfl) | exact CleanP.lst2 rfl (fun _ => rfl) (fun _ => rfl) | kernel_rfl | (dsimp only; omega) | (unfold roomOK; simp only [lns, ipRows_take]; omega)) | ((with_reducible apply Elem.lst); focus first | omega | (simp only [lns, ipRows_take]; omega)) | (with_reducible first | apply Bif.T | apply Bif.F) | ((with_reducible first | apply Bif.dec | apply Bif.beq | apply Bif.bne) <;> intro h <;> (try simp only [lns, ipRows_take] at h) <;> (try first | (exfalso; omega) | (exact absurd True.intro h))) | (with_reducible first | apply Bif.not | apply Bif.and | apply Bif.or) | ((with_reducible apply Bif.mk) <;> intro h <;> (try first | (exfalso; omega) | (exact absurd True.intro h))) | (with_reducible apply Same.rfl) | (apply Same.int; focus first | rfl | omega | (dsimp only; omega) | (simp only [lns, ipRows_take]; omega)) | (apply Same.bool; focus (with_reducible rfl)) | (apply Same.ov; (focus first | rfl | omega | (simp only [lns, ipRows_take]; omega)); focus first | rfl | omega | (simp only [lns, ipRows_take]; first | done | omega)) | ((with_reducible apply Same.mk); focus first | omega | (simp only [lns, ipRows_take]; omega)) | (apply Same.rfl) | (with_reducible first | apply Alt.l | apply Sl3.l | apply Cut.l | apply Turn.l | apply GiveN.lend)) <;> conv => whnf) | fail)
    rintro ⟨i, w, u, hi, hw, hu⟩
    dsimp only
    have hT := newL_tab (w := w) (u := u) hs (by omega) (by omega)
    have hTl := hT.len
    conv => whnf
    by_cases hi2 : i < order.length ∧ i < 60
    · obtain ⟨hi3, hi4⟩ := hi2
      have r1 := modV_range (v := gt order i) (n := 2 + m) (by omega)
      have cO := k_made_Mod (gt order i) (2 + m) (by omega)
      generalize hy : modV (gt order i) (2 + m) = y at *
      have hst := newest_step (s := s) (w := w) (u := u) (k := y) (now := (i : Int)) hs (by omega) (by omega) (by omega) hu
      have b1 := k_Register (newL s w u) .no ip0 ⟨5, incs s y.toNat, 0, 500⟩ ⟨2, y, 0⟩ i (by omega) hT.seq ⟨incs_range hs _, by dsimp only; omega⟩
      rw [hst] at b1
      have g1 : gt (cntL s k) y.toNat = incs s y.toNat := cntL_gt (by omega)
      have g2 : gt (cntL s k) (max w y).toNat = incs s (max w y).toNat := cntL_gt (by omega)
      rw [← g1] at b1
      obtain ⟨u', hu'⟩ : ∃ u', u' = if y < w then u else (i : Int) + 500 := ⟨_, rfl⟩
      rw [← hu'] at b1
      have hur : 100 ≤ u' ∧ u' ≤ 1000 := by rw [hu']; split <;> omega
      have hQ : newL s (max w y) u' = [newE s (max w y).toNat u'] := by rw [newL, if_neg (by omega)]
      have n1 : (newL s (max w y) u').length = 1 := by rw [hQ]; rfl
      have n2 : (gt (newL s (max w y) u') 0).seq = gt (cntL s k) (max w y).toNat := by rw [hQ, g2]; rfl
      have n3 : (gt (newL s (max w y) u') 0).link.short = max w y := by rw [hQ]; show (((max w y).toNat : Nat) : Int) = max w y; omega
      by_cases hyw : y < w
      · rw [if_pos hyw] at b1
        dsimp only at b1
        repeat' (first | with_reducible apply True.intro | ((first | (with_reducible first | apply Nm.set _ (int_mk _) | apply Nm.snoc _ (int_mk _) | apply Nm.rep _ (int_mk _) | apply Nm.set _ (bool_mk _) | apply Nm.snoc _ (bool_mk _) | apply Nm.rep _ (bool_mk _) | apply Nm.set _ (rfl) | apply Nm.snoc _ (rfl) | apply Nm.rep _ (rfl)) | ((with_reducible apply Nm.mk); focus ((try simp only [lns, ipRows_take]); exact rfl)) | ((with_reducible first | apply Wr.i64 | apply Wr.u8 | apply Wr.u16 | apply Wr.u32 | apply Wr.u64); focus omega) | ((with_reducible apply Need.mk); focus first | omega | (simp only [lns, ipRows_take]; omega) | exact List.cons_ne_nil _ _ | exact CleanP.nil rfl | exact CleanP.cell rfl rfl | exact CleanP.lst rfl (fun _ => rfl) | exact CleanP.lst2 rfl (fun _ => rfl) (fun _ => rfl) | kernel_rfl | (dsimp only; omega) | (unfold roomOK; simp only [lns, ipRows_take]; omega)) | ((with_reducible apply Elem.lst); focus first | omega | (simp only [lns, ipRows_take]; omega)) | (apply CallN.mk (cO)) | (apply CallN.mk (b1)) | (with_reducible first | apply Bif.T | apply Bif.F) | ((with_reducible first | apply Bif.dec | apply Bif.beq | apply Bif.bne) <;> intro h <;> (try simp only [lns, ipRows_take] at h) <;> (try first | (exfalso; omega) | (exact absurd True.intro h) | (simp_all; done) | (simp at h; omega))) | (with_reducible first | apply Bif.not | apply Bif.and | apply Bif.or) | ((with_reducible apply Bif.mk) <;> intro h <;> (try first | (exfalso; omega) | (exact absurd True.intro h) | (simp_all; done) | (simp at h; omega))) | (with_reducible apply Same.rfl) | (apply Same.int; focus first | rfl | omega | (dsimp only; omega) | (simp only [lns, ipRows_take]; omega)) | (apply Same.bool; focus (with_reducible rfl)) | (apply Same.ov; (focus first | rfl | omega | (simp only [lns, ipRows_take]; omega)); focus first | rfl | omega | (simp only [lns, ipRows_take]; first | done | omega)) | ((with_reducible apply Same.mk); focus first | omega | (simp only [lns, ipRows_take]; omega)) | (apply Same.rfl) | (with_reducible first | apply Alt.l | apply Sl3.l | apply Cut.l | apply Turn.l | apply GiveN.lend)) <;> conv => whnf) | fail)
        (refine ⟨⟨i + 1, max w y, u', by omega, by omega, hur⟩, ?_⟩; (try dsimp only); conv => whnf); repeat' (first | with_reducible apply True.intro | ((with_reducible apply Turn.r); (conv => whnf)) | ((first | (with_reducible first | apply Nm.set _ (int_mk _) | apply Nm.snoc _ (int_mk _) | apply Nm.rep _ (int_mk _) | apply Nm.set _ (bool_mk _) | apply Nm.snoc _ (bool_mk _) | apply Nm.rep _ (bool_mk _) | apply Nm.set _ (rfl) | apply Nm.snoc _ (rfl) | apply Nm.rep _ (rfl)) | ((with_reducible apply Nm.mk); focus ((try simp only [lns, ipRows_take]); exact rfl)) | ((with_reducible first | apply Wr.i64 | apply Wr.u8 | apply Wr.u16 | apply Wr.u32 | apply Wr.u64); focus omega) | ((with_reducible apply Need.mk); focus first | omega | (simp only [lns, ipRows_take]; omega) | exact List.cons_ne_nil _ _ | exact CleanP.nil rfl | exact CleanP.cell rfl rfl | exact CleanP.lst rfl (fun _ => rfl) | exact CleanP.lst2 rfl (fun _ => rfl) (fun _ => rfl) | kernel_rfl | (dsimp only; omega) | (unfold roomOK; simp only [lns, ipRows_take]; omega)) | ((with_reducible apply Elem.lst); focus first | omega | (simp only [lns, ipRows_take]; omega)) | (with_reducible first | apply Bif.T | apply Bif.F) | ((with_reducible first | apply Bif.dec | apply Bif.beq | apply Bif.bne) <;> intro h <;> (try simp only [lns, ipRows_take] at h) <;> (try first | (exfalso; omega) | (exact absurd True.intro h))) | (with_reducible first | apply Bif.not | apply Bif.and | apply Bif.or) | ((with_reducible apply Bif.mk) <;> intro h <;> (try first | (exfalso; omega) | (exact absurd True.intro h))) | (with_reducible apply Same.rfl) | (apply Same.int; focus first | rfl | omega | (dsimp only; omega) | (simp only [lns, ipRows_take]; omega)) | (apply Same.bool; focus (with_reducible rfl)) | (apply Same.ov; (focus first | rfl | omega | (simp only [lns, ipRows_take]; omega)); focus first | rfl | omega | (simp only [lns, ipRows_take]; first | done | omega)) | ((with_reducible apply Same.mk); focus first | omega | (simp only [lns, ipRows_take]; omega)) | (apply Same.rfl) | (with_reducible first | apply Alt.l | apply Sl3.l | apply Cut.l | apply Turn.l | apply GiveN.lend)) <;> conv => whnf) | fail)
      · rw [if_neg hyw] at b1
        dsimp only at b1
        repeat' (first | with_reducible apply True.intro | ((first | (with_reducible first | apply Nm.set _ (int_mk _) | apply Nm.snoc _ (int_mk _) | apply Nm.rep _ (int_mk _) | apply Nm.set _ (bool_mk _) | apply Nm.snoc _ (bool_mk _) | apply Nm.rep _ (bool_mk _) | apply Nm.set _ (rfl) | apply Nm.snoc _ (rfl) | apply Nm.rep _ (rfl)) | ((with_reducible apply Nm.mk); focus ((try simp only [lns, ipRows_take]); exact rfl)) | ((with_reducible first | apply Wr.i64 | apply Wr.u8 | apply Wr.u16 | apply Wr.u32 | apply Wr.u64); focus omega) | ((with_reducible apply Need.mk); focus first | omega | (simp only [lns, ipRows_take]; omega) | exact List.cons_ne_nil _ _ | exact CleanP.nil rfl | exact CleanP.cell rfl rfl | exact CleanP.lst rfl (fun _ => rfl) | exact CleanP.lst2 rfl (fun _ => rfl) (fun _ => rfl) | kernel_rfl | (dsimp only; omega) | (unfold roomOK; simp only [lns, ipRows_take]; omega)) | ((with_reducible apply Elem.lst); focus first | omega | (simp only [lns, ipRows_take]; omega)) | (apply CallN.mk (cO)) | (apply CallN.mk (b1)) | (with_reducible first | apply Bif.T | apply Bif.F) | ((with_reducible first | apply Bif.dec | apply Bif.beq | apply Bif.bne) <;> intro h <;> (try simp only [lns, ipRows_take] at h) <;> (try first | (exfalso; omega) | (exact absurd True.intro h) | (simp_all; done) | (simp at h; omega))) | (with_reducible first | apply Bif.not | apply Bif.and | apply Bif.or) | ((with_reducible apply Bif.mk) <;> intro h <;> (try first | (exfalso; omega) | (exact absurd True.intro h) | (simp_all; done) | (simp at h; omega))) | (with_reducible apply Same.rfl) | (apply Same.int; focus first | rfl | omega | (dsimp only; omega) | (simp only [lns, ipRows_take]; omega)) | (apply Same.bool; focus (with_reducible rfl)) | (apply Same.ov; (focus first | rfl | omega | (simp only [lns, ipRows_take]; omega)); focus first | rfl | omega | (simp only [lns, ipRows_take]; first | done | omega)) | ((with_reducible apply Same.mk); focus first | omega | (simp only [lns, ipRows_take]; omega)) | (apply Same.rfl) | (with_reducible first | apply Alt.l | apply Sl3.l | apply Cut.l | apply Turn.l | apply GiveN.lend)) <;> conv => whnf) | fail)
        (refine ⟨⟨i + 1, max w y, u', by omega, by omega, hur⟩, ?_⟩; (try dsimp only); conv => whnf); repeat' (first | with_reducible apply True.intro | ((with_reducible apply Turn.r); (conv => whnf)) | ((first | (with_reducible first | apply Nm.set _ (int_mk _) | apply Nm.snoc _ (int_mk _) | apply Nm.rep _ (int_mk _) | apply Nm.set _ (bool_mk _) | apply Nm.snoc _ (bool_mk _) | apply Nm.rep _ (bool_mk _) | apply Nm.set _ (rfl) | apply Nm.snoc _ (rfl) | apply Nm.rep _ (rfl)) | ((with_reducible apply Nm.mk); focus ((try simp only [lns, ipRows_take]); exact rfl)) | ((with_reducible first | apply Wr.i64 | apply Wr.u8 | apply Wr.u16 | apply Wr.u32 | apply Wr.u64); focus omega) | ((with_reducible apply Need.mk); focus first | omega | (simp only [lns, ipRows_take]; omega) | exact List.cons_ne_nil _ _ | exact CleanP.nil rfl | exact CleanP.cell rfl rfl | exact CleanP.lst rfl (fun _ => rfl) | exact CleanP.lst2 rfl (fun _ => rfl) (fun _ => rfl) | kernel_rfl | (dsimp only; omega) | (unfold roomOK; simp only [lns, ipRows_take]; omega)) | ((with_reducible apply Elem.lst); focus first | omega | (simp only [lns, ipRows_take]; omega)) | (with_reducible first | apply Bif.T | apply Bif.F) | ((with_reducible first | apply Bif.dec | apply Bif.beq | apply Bif.bne) <;> intro h <;> (try simp only [lns, ipRows_take] at h) <;> (try first | (exfalso; omega) | (exact absurd True.intro h))) | (with_reducible first | apply Bif.not | apply Bif.and | apply Bif.or) | ((with_reducible apply Bif.mk) <;> intro h <;> (try first | (exfalso; omega) | (exact absurd True.intro h))) | (with_reducible apply Same.rfl) | (apply Same.int; focus first | rfl | omega | (dsimp only; omega) | (simp only [lns, ipRows_take]; omega)) | (apply Same.bool; focus (with_reducible rfl)) | (apply Same.ov; (focus first | rfl | omega | (simp only [lns, ipRows_take]; omega)); focus first | rfl | omega | (simp only [lns, ipRows_take]; first | done | omega)) | ((with_reducible apply Same.mk); focus first | omega | (simp only [lns, ipRows_take]; omega)) | (apply Same.rfl) | (with_reducible first | apply Alt.l | apply Sl3.l | apply Cut.l | apply Turn.l | apply GiveN.lend)) <;> conv => whnf) | fail)
    · repeat' (first | with_reducible apply True.intro | ((first | (with_reducible first | apply Nm.set _ (int_mk _) | apply Nm.snoc _ (int_mk _) | apply Nm.rep _ (int_mk _) | apply Nm.set _ (bool_mk _) | apply Nm.snoc _ (bool_mk _) | apply Nm.rep _ (bool_mk _) | apply Nm.set _ (rfl) | apply Nm.snoc _ (rfl) | apply Nm.rep _ (rfl)) | ((with_reducible apply Nm.mk); focus ((try simp only [lns, ipRows_take]); exact rfl)) | ((with_reducible first | apply Wr.i64 | apply Wr.u8 | apply Wr.u16 | apply Wr.u32 | apply Wr.u64); focus omega) | ((with_reducible apply Need.mk); focus first | omega | (simp only [lns, ipRows_take]; omega) | exact List.cons_ne_nil _ _ | exact CleanP.nil rfl | exact CleanP.cell rfl rfl | exact CleanP.lst rfl (fun _ => rfl) | exact CleanP.lst2 rfl (fun _ => rfl) (fun _ => rfl) | kernel_rfl | (dsimp only; omega) | (unfold roomOK; simp only [lns, ipRows_take]; omega)) | ((with_reducible apply Elem.lst); focus first | omega | (simp only [lns, ipRows_take]; omega)) | (apply CallN.mk (k_known)) | (with_reducible first | apply Bif.T | apply Bif.F) | ((with_reducible first | apply Bif.dec | apply Bif.beq | apply Bif.bne) <;> intro h <;> (try simp only [lns, ipRows_take] at h) <;> (try first | (exfalso; omega) | (exact absurd True.intro h))) | (with_reducible first | apply Bif.not | apply Bif.and | apply Bif.or) | ((with_reducible apply Bif.mk) <;> intro h <;> (try first | (exfalso; omega) | (exact absurd True.intro h))) | (with_reducible apply Same.rfl) | (apply Same.int; focus first | rfl | omega | (dsimp only; omega) | (simp only [lns, ipRows_take]; omega)) | (apply Same.bool; focus (with_reducible rfl)) | (apply Same.ov; (focus first | rfl | omega | (simp only [lns, ipRows_take]; omega)); focus first | rfl | omega | (simp only [lns, ipRows_take]; first | done | omega)) | ((with_reducible apply Same.mk); focus first | omega | (simp only [lns, ipRows_take]; omega)) | (apply Same.rfl) | (with_reducible first | apply Alt.l | apply Sl3.l | apply Cut.l | apply Turn.l | apply GiveN.lend)) <;> conv => whnf) | fail)
end Go.Fw
