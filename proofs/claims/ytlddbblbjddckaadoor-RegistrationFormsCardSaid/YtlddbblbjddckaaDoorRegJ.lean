/- RegistrationPlays: what requests leave; the walk. -/
import Derived.Test.YtlddbblbjddckaaDoorRegI
namespace Go.Fw
open Go.Proofs
set_option maxHeartbeats 16000000
set_option maxRecDepth 4000
theorem fndR_iff {l : List Reg} {a : IP} : fndR l a = true ↔ atR l a < l.length ∧ (gt l (atR l a)).ip = a := fndK_iff cmpIP_ok
theorem set_valid {c : List Reg} {a : IP} {x : Reg} (hv : validR c = true) (hf : fndR c a = true) (hi : x.ip = a) (hx : regOK x = true) : validR (c.set (atR c a) x) = true := by
  subst hi
  exact okL_set cmpIP_ok hv (x := x) hf hx
theorem delR_valid {c : List Reg} {i : Nat} (hv : validR c = true) : validR (delR c i) = true := okL_sub cmpIP_ok hv (delR_sub c i)
theorem askR_valid {c : List Reg} {a : IP} {o : Own} {k : Adr} {now : Int} (hv : validR c = true) (ha : gt a.1 0 ≠ 255) (hk : oneA k = true) (hn : isT now) (ho : 0 ≤ o.life) : validR (askR c a o k now).1 = true := by
  have hn2 : 0 ≤ now ∧ now ≤ 1099511627776 := hn
  unfold askR
  by_cases hf : fndR c a = true
  · obtain ⟨h1, h2⟩ := fndR_iff.1 hf
    rw [if_pos hf]
    by_cases h3 : (gt c (atR c a)).eui ≠ o.eui
    · rw [if_pos h3]; exact hv
    · rw [if_neg h3]
      by_cases h4 : (gt c (atR c a)).seq ≠ o.seq ∧ newerC o.seq (gt c (atR c a)).seq = false
      · rw [if_pos h4]; exact hv
      · rw [if_neg h4]
        by_cases h5 : o.life = 0
        · rw [if_pos h5]; exact delR_valid hv
        · rw [if_neg h5]
          obtain ⟨g1, g2, g3, g4⟩ := regOK_iff.1 (regOK_of hv h1)
          refine set_valid hv hf h2 (regOK_iff.2 ⟨g1, hk, g3, ?_⟩)
          show 0 ≤ min (now + o.life) 1099511627776 ∧ min (now + o.life) 1099511627776 ≤ 1099511627776
          omega
  · rw [if_neg hf]
    by_cases h5 : o.life = 0
    · rw [if_pos h5]; exact hv
    · rw [if_neg h5]
      by_cases h6 : c.length ≥ 16
      · rw [if_pos h6]; exact hv
      · rw [if_neg h6]
        refine okL_ins cmpIP_ok hv (x := newR a o k now) (show fndR c a = false by simpa using hf) (regOK_iff.2 ⟨ha, hk, .inl rfl, ?_⟩) (by omega)
        show 0 ≤ min (now + o.life) 1099511627776 ∧ min (now + o.life) 1099511627776 ≤ 1099511627776
        omega
theorem askR_mem {c : List Reg} {a : IP} {o : Own} {k : Adr} {now : Int} {r : Reg} (h : r ∈ (askR c a o k now).1) : r ∈ c ∨ r.seq = o.seq := by
  unfold askR at h
  repeat' split at h
  all_goals first | exact .inl h | skip
  · exact .inl ((delR_sub _ _).subset h)
  · rcases List.mem_or_eq_of_mem_set h with h | rfl
    · exact .inl h
    · exact .inr rfl
  · simp only [insR, List.mem_append, List.mem_singleton] at h
    rcases h with (h | h) | h
    · exact .inl (List.mem_of_mem_take h)
    · exact .inr (by rw [h]; rfl)
    · exact .inl (List.mem_of_mem_drop h)
/-- A table that is valid, with counters of a byte. -/
structure TabR (l : List Reg) : Prop where
  valid : validR l = true
  seq : seqR l
theorem TabR.len {l : List Reg} (h : TabR l) : l.length ≤ 16 := okL_len h.valid
theorem TabR.nil : TabR [] := ⟨by simp [okL], seqR_nil⟩
theorem TabR.cur {l : List Reg} {now : Int} (h : TabR l) : TabR (curR l now) := ⟨curR_valid h.valid, seqR_cur h.seq⟩
theorem TabR.ask {c : List Reg} {a : IP} {o : Own} {k : Adr} {now : Int} (h : TabR c) (ha : gt a.1 0 ≠ 255) (hk : oneA k = true) (hn : isT now) (ho : OwnOK o) : TabR (askR c a o k now).1 :=
  ⟨askR_valid h.valid ha hk hn ho.life.1, fun r hr => by
    rcases askR_mem hr with hr | hr
    · exact h.seq r hr
    · rw [hr]; exact ho.seq⟩
theorem TabR.con {c : List Reg} {a : IP} {who status : Int} (h : TabR c) : TabR (conR c a who status).1 := by
  unfold conR
  by_cases h1 : fndR c a = true ∧ (gt c (atR c a)).eui = who ∧ (gt c (atR c a)).state = 1
  · rw [if_pos h1]
    obtain ⟨h2, h3⟩ := fndR_iff.1 h1.1
    by_cases h4 : status ≠ 0
    · rw [if_pos h4]; exact ⟨delR_valid h.valid, seqR_sub h.seq (delR_sub _ _)⟩
    · rw [if_neg h4]
      obtain ⟨g1, g2, g3, g4⟩ := regOK_iff.1 (regOK_of h.valid h2)
      refine ⟨set_valid h.valid h1.1 h3 (regOK_iff.2 ⟨g1, g2, .inr rfl, g4⟩), fun r hr => ?_⟩
      rcases List.mem_or_eq_of_mem_set hr with hr | rfl
      · exact h.seq r hr
      · exact seqR_gt h.seq h2
  · rw [if_neg h1]; exact h
theorem TabR.reg {l : List Reg} {a : IP} {o : Own} {k : Adr} {now : Int} (h : TabR l) (ha : gt a.1 0 ≠ 255) (hk : oneA k = true) (hn : isT now) (ho : OwnOK o) :
    regM l a o k now = ((askR (curR l now) a o k now).1, (askR (curR l now) a o k now).2, 0) ∧ TabR (askR (curR l now) a o k now).1 :=
  ⟨by rw [regM, if_pos ⟨h.valid, ha, hk⟩, if_pos hn], h.cur.ask ha hk hn ho⟩
theorem TabR.conM {l : List Reg} {a : IP} {who status now : Int} (h : TabR l) (hn : isT now) :
    conM l a who status now = ((conR (curR l now) a who status).1, (conR (curR l now) a who status).2, 0) ∧ TabR (conR (curR l now) a who status).1 :=
  ⟨by rw [Fw.conM, if_pos h.valid, if_pos hn], h.cur.con⟩
structure PlayI where
  L : List Reg
  i : Nat
  now : Int
  k : Int
  hi : i ≤ 25
  hn : 0 ≤ now ∧ now ≤ 5 * i
  hk : 0 ≤ k
  ht : TabR L
theorem k_RegistrationPlays (t : List Int) : Con Tryd.prog 8 [.fs .no 1 (ints t)] [] (bool true) [] := by
  have ht : (t.take 400).length ≤ 400 := by simp; omega
  generalize hT : t.take 400 = l at ht
  have hN := k_made_New t
  rw [hT] at hN
  refine spec_of_run ttok mixed (T0 := 21278032526276328084627781822040768509) (ts := [.tmp 2]) 131 rfl rfl rfl rfl (by simp) rfl ?_
  conv => whnf
  repeat' (first | with_reducible apply True.intro | ((first | (with_reducible first | apply Nm.set _ (int_mk _) | apply Nm.snoc _ (int_mk _) | apply Nm.rep _ (int_mk _) | apply Nm.set _ (bool_mk _) | apply Nm.snoc _ (bool_mk _) | apply Nm.rep _ (bool_mk _) | apply Nm.set _ (rfl) | apply Nm.snoc _ (rfl) | apply Nm.rep _ (rfl)) | ((with_reducible apply Nm.mk); focus ((try simp only [lns, ipRows_take]); exact rfl)) | ((with_reducible first | apply Wr.i64 | apply Wr.u8 | apply Wr.u16 | apply Wr.u32 | apply Wr.u64); focus omega) | ((with_reducible apply Need.mk); focus first | omega | (simp only [lns, ipRows_take]; omega) | exact List.cons_ne_nil _ _ | exact CleanP.nil rfl | exact CleanP.cell rfl rfl | exact CleanP.lst rfl (fun _ => rfl) | exact CleanP.lst2 rfl (fun _ => rfl) (fun _ => rfl) | kernel_rfl | (dsimp only; omega) | (unfold roomOK; simp only [lns, ipRows_take]; omega)) | ((with_reducible apply Elem.lst); focus first | omega | (simp only [lns, ipRows_take]; omega)) | (apply CallN.mk (hN)) | (refine CallN.ex (k_Registrations l _ (by omega) ht) ?_; rintro _ _ ⟨L0, k1, rfl, rfl, hm, c2⟩) | (with_reducible first | apply Bif.T | apply Bif.F) | ((with_reducible first | apply Bif.dec | apply Bif.beq | apply Bif.bne) <;> intro h <;> (try simp only [lns, ipRows_take] at h) <;> (try first | (exfalso; omega) | (exact absurd True.intro h))) | (with_reducible first | apply Bif.not | apply Bif.and | apply Bif.or) | ((with_reducible apply Bif.mk) <;> intro h <;> (try first | (exfalso; omega) | (exact absurd True.intro h))) | (with_reducible apply Same.rfl) | (apply Same.int; focus first | rfl | omega | (dsimp only; omega) | (simp only [lns, ipRows_take]; omega)) | (apply Same.bool; focus (with_reducible rfl)) | (apply Same.ov; (focus first | rfl | omega | (simp only [lns, ipRows_take]; omega)); focus first | rfl | omega | (simp only [lns, ipRows_take]; first | done | omega)) | ((with_reducible apply Same.mk); focus first | omega | (simp only [lns, ipRows_take]; omega)) | (apply Same.rfl) | (with_reducible first | apply Alt.l | apply Sl3.l | apply Cut.l | apply Turn.l | apply GiveN.lend)) <;> conv => whnf) | fail)
  refine loop_keep ttok mixed (T0 := 21278032526276328084627781822040768509) [] (ι := PlayI)
    (fun p => [(3, .pb 0 []), (4, .ov 23 1 0 p.L.length), (5, int p.now), (6, int (p.i : Int))]) (fun p => [.cells (tape l p.k), .arr none 23 (lst regV p.L)]) (fun p => 25 - p.i) ⟨L0, 0, 0, k1, by omega, by omega, c2, ⟨hm.valid, hm.seq⟩⟩ ?_
  conv => whnf
  repeat' (first | with_reducible apply True.intro | ((first | (with_reducible first | apply Nm.set _ (int_mk _) | apply Nm.snoc _ (int_mk _) | apply Nm.rep _ (int_mk _) | apply Nm.set _ (bool_mk _) | apply Nm.snoc _ (bool_mk _) | apply Nm.rep _ (bool_mk _) | apply Nm.set _ (rfl) | apply Nm.snoc _ (rfl) | apply Nm.rep _ (rfl)) | ((with_reducible apply Nm.mk); focus ((try simp only [lns, ipRows_take]); exact rfl)) | ((with_reducible first | apply Wr.i64 | apply Wr.u8 | apply Wr.u16 | apply Wr.u32 | apply Wr.u64); focus omega) | ((with_reducible apply Need.mk); focus first | omega | (simp only [lns, ipRows_take]; omega) | exact List.cons_ne_nil _ _ | exact CleanP.nil rfl | exact CleanP.cell rfl rfl | exact CleanP.lst rfl (fun _ => rfl) | exact CleanP.lst2 rfl (fun _ => rfl) (fun _ => rfl) | kernel_rfl | (dsimp only; omega) | (unfold roomOK; simp only [lns, ipRows_take]; omega)) | ((with_reducible apply Elem.lst); focus first | omega | (simp only [lns, ipRows_take]; omega)) | (with_reducible first | apply Bif.T | apply Bif.F) | ((with_reducible first | apply Bif.dec | apply Bif.beq | apply Bif.bne) <;> intro h <;> (try simp only [lns, ipRows_take] at h) <;> (try first | (exfalso; omega) | (exact absurd True.intro h))) | (with_reducible first | apply Bif.not | apply Bif.and | apply Bif.or) | ((with_reducible apply Bif.mk) <;> intro h <;> (try first | (exfalso; omega) | (exact absurd True.intro h))) | (with_reducible apply Same.rfl) | (apply Same.int; focus first | rfl | omega | (dsimp only; omega) | (simp only [lns, ipRows_take]; omega)) | (apply Same.bool; focus (with_reducible rfl)) | (apply Same.ov; (focus first | rfl | omega | (simp only [lns, ipRows_take]; omega)); focus first | rfl | omega | (simp only [lns, ipRows_take]; first | done | omega)) | ((with_reducible apply Same.mk); focus first | omega | (simp only [lns, ipRows_take]; omega)) | (apply Same.rfl) | (with_reducible first | apply Alt.l | apply Sl3.l | apply Cut.l | apply Turn.l | apply GiveN.lend)) <;> conv => whnf) | fail)
  rintro ⟨L, i, now, k, hi, hn, hk, hTb⟩
  dsimp only
  have hLl := hTb.len
  conv => whnf
  by_cases hi2 : i < 25
  · repeat' (first | with_reducible apply True.intro | ((first | (with_reducible first | apply Nm.set _ (int_mk _) | apply Nm.snoc _ (int_mk _) | apply Nm.rep _ (int_mk _) | apply Nm.set _ (bool_mk _) | apply Nm.snoc _ (bool_mk _) | apply Nm.rep _ (bool_mk _) | apply Nm.set _ (rfl) | apply Nm.snoc _ (rfl) | apply Nm.rep _ (rfl)) | ((with_reducible apply Nm.mk); focus ((try simp only [lns, ipRows_take]); exact rfl)) | ((with_reducible first | apply Wr.i64 | apply Wr.u8 | apply Wr.u16 | apply Wr.u32 | apply Wr.u64); focus omega) | ((with_reducible apply Need.mk); focus first | omega | (simp only [lns, ipRows_take]; omega) | exact List.cons_ne_nil _ _ | exact CleanP.nil rfl | exact CleanP.cell rfl rfl | exact CleanP.lst rfl (fun _ => rfl) | exact CleanP.lst2 rfl (fun _ => rfl) (fun _ => rfl) | kernel_rfl | (dsimp only; omega) | (unfold roomOK; simp only [lns, ipRows_take]; omega)) | ((with_reducible apply Elem.lst); focus first | omega | (simp only [lns, ipRows_take]; omega)) | (refine CallN.ex (k_Unicast l _ (by omega) ht) ?_; rintro _ _ ⟨un, k3, rfl, rfl, u1, u2⟩) | (refine CallN.ex (k_Owner l _ (by omega) ht) ?_; rintro _ _ ⟨o, k4, rfl, rfl, ho, _, o2⟩) | (refine CallN.ex (k_Device l _ (by omega) ht) ?_; rintro _ _ ⟨dv, k5, rfl, rfl, d1, d2⟩) | (refine CallN.ex (k_tape_Bool l _ _ (by omega) ht (by omega)) ?_; rintro _ _ ⟨b, k6, rfl, rfl, b3⟩) | (refine CallN.ex (k_tape_Next l _ 2 (by omega) ht (by omega)) ?_; rintro _ _ ⟨st, k7, rfl, rfl, s1, s2, s3⟩) | (with_reducible first | apply Bif.T | apply Bif.F) | ((with_reducible first | apply Bif.dec | apply Bif.beq | apply Bif.bne) <;> intro h <;> (try simp only [lns, ipRows_take] at h) <;> (try first | (exfalso; omega) | (exact absurd True.intro h))) | (with_reducible first | apply Bif.not | apply Bif.and | apply Bif.or) | ((with_reducible apply Bif.mk) <;> intro h <;> (try first | (exfalso; omega) | (exact absurd True.intro h))) | (with_reducible apply Same.rfl) | (apply Same.int; focus first | rfl | omega | (dsimp only; omega) | (simp only [lns, ipRows_take]; omega)) | (apply Same.bool; focus (with_reducible rfl)) | (apply Same.ov; (focus first | rfl | omega | (simp only [lns, ipRows_take]; omega)); focus first | rfl | omega | (simp only [lns, ipRows_take]; first | done | omega)) | ((with_reducible apply Same.mk); focus first | omega | (simp only [lns, ipRows_take]; omega)) | (apply Same.rfl) | (with_reducible first | apply Alt.l | apply Sl3.l | apply Cut.l | apply Turn.l | apply GiveN.lend)) <;> conv => whnf) | fail)
    · have b1 := k_Confirm L .no (uni un) o.eui st now (by omega)
      have b2 := k_refConfirm L .no (uni un) o.eui st now (by omega)
      obtain ⟨e1, e2⟩ := hTb.conM (a := uni un) (who := o.eui) (status := st) (now := now) ⟨by omega, by omega⟩
      rw [e1] at b1 b2
      generalize conR (curR L now) (uni un) o.eui st = q at *
      obtain ⟨Q, ok⟩ := q
      dsimp only at b1 b2 e2
      have hQ := e2.len
      repeat' (first | with_reducible apply True.intro | ((with_reducible apply Bif.tt e2.valid); (conv => whnf)) | ((first | (with_reducible first | apply Nm.set _ (int_mk _) | apply Nm.snoc _ (int_mk _) | apply Nm.rep _ (int_mk _) | apply Nm.set _ (bool_mk _) | apply Nm.snoc _ (bool_mk _) | apply Nm.rep _ (bool_mk _) | apply Nm.set _ (rfl) | apply Nm.snoc _ (rfl) | apply Nm.rep _ (rfl)) | ((with_reducible apply Nm.mk); focus ((try simp only [lns, ipRows_take]); exact rfl)) | ((with_reducible first | apply Wr.i64 | apply Wr.u8 | apply Wr.u16 | apply Wr.u32 | apply Wr.u64); focus omega) | ((with_reducible apply Need.mk); focus first | omega | (simp only [lns, ipRows_take]; omega) | exact List.cons_ne_nil _ _ | exact CleanP.nil rfl | exact CleanP.cell rfl rfl | exact CleanP.lst rfl (fun _ => rfl) | exact CleanP.lst2 rfl (fun _ => rfl) (fun _ => rfl) | kernel_rfl | (dsimp only; omega) | (unfold roomOK; simp only [lns, ipRows_take]; omega)) | ((with_reducible apply Elem.lst); focus first | omega | (simp only [lns, ipRows_take]; omega)) | (apply CallN.mk (b1)) | (apply CallN.mk (b2)) | (apply CallN.mk (k_rSame Q Q _ _ (by omega))) | (apply CallN.mk (k_rValid Q _ (by omega))) | (refine CallN.ex (k_tape_Next l _ 6 (by omega) ht (by omega)) ?_; rintro _ _ ⟨z, k8, rfl, rfl, z1, z2, z3⟩) | (with_reducible first | apply Bif.T | apply Bif.F) | ((with_reducible first | apply Bif.dec | apply Bif.beq | apply Bif.bne) <;> intro h <;> (try simp only [lns, ipRows_take] at h) <;> (try first | (exfalso; omega) | (exact absurd True.intro h) | (simp at h; done) | (exact absurd rfl h))) | (with_reducible first | apply Bif.not | apply Bif.and | apply Bif.or) | ((with_reducible apply Bif.mk) <;> intro h <;> (try first | (exfalso; omega) | (exact absurd True.intro h) | (simp at h; done) | (exact absurd rfl h))) | (with_reducible apply Same.rfl) | (apply Same.int; focus first | rfl | omega | (dsimp only; omega) | (simp only [lns, ipRows_take]; omega)) | (apply Same.bool; focus (with_reducible rfl)) | (apply Same.ov; (focus first | rfl | omega | (simp only [lns, ipRows_take]; omega)); focus first | rfl | omega | (simp only [lns, ipRows_take]; first | done | omega)) | ((with_reducible apply Same.mk); focus first | omega | (simp only [lns, ipRows_take]; omega)) | (apply Same.rfl) | (with_reducible first | apply Alt.l | apply Sl3.l | apply Cut.l | apply Turn.l | apply GiveN.lend)) <;> conv => whnf) | fail)
      (refine ⟨⟨Q, i + 1, now + z, k8, by omega, by omega, z3, e2⟩, ?_⟩; (try dsimp only); conv => whnf); repeat' (first | with_reducible apply True.intro | ((with_reducible apply Turn.r); (conv => whnf)) | ((first | (with_reducible first | apply Nm.set _ (int_mk _) | apply Nm.snoc _ (int_mk _) | apply Nm.rep _ (int_mk _) | apply Nm.set _ (bool_mk _) | apply Nm.snoc _ (bool_mk _) | apply Nm.rep _ (bool_mk _) | apply Nm.set _ (rfl) | apply Nm.snoc _ (rfl) | apply Nm.rep _ (rfl)) | ((with_reducible apply Nm.mk); focus ((try simp only [lns, ipRows_take]); exact rfl)) | ((with_reducible first | apply Wr.i64 | apply Wr.u8 | apply Wr.u16 | apply Wr.u32 | apply Wr.u64); focus omega) | ((with_reducible apply Need.mk); focus first | omega | (simp only [lns, ipRows_take]; omega) | exact List.cons_ne_nil _ _ | exact CleanP.nil rfl | exact CleanP.cell rfl rfl | exact CleanP.lst rfl (fun _ => rfl) | exact CleanP.lst2 rfl (fun _ => rfl) (fun _ => rfl) | kernel_rfl | (dsimp only; omega) | (unfold roomOK; simp only [lns, ipRows_take]; omega)) | ((with_reducible apply Elem.lst); focus first | omega | (simp only [lns, ipRows_take]; omega)) | (with_reducible first | apply Bif.T | apply Bif.F) | ((with_reducible first | apply Bif.dec | apply Bif.beq | apply Bif.bne) <;> intro h <;> (try simp only [lns, ipRows_take] at h) <;> (try first | (exfalso; omega) | (exact absurd True.intro h))) | (with_reducible first | apply Bif.not | apply Bif.and | apply Bif.or) | ((with_reducible apply Bif.mk) <;> intro h <;> (try first | (exfalso; omega) | (exact absurd True.intro h))) | (with_reducible apply Same.rfl) | (apply Same.int; focus first | rfl | omega | (dsimp only; omega) | (simp only [lns, ipRows_take]; omega)) | (apply Same.bool; focus (with_reducible rfl)) | (apply Same.ov; (focus first | rfl | omega | (simp only [lns, ipRows_take]; omega)); focus first | rfl | omega | (simp only [lns, ipRows_take]; first | done | omega)) | ((with_reducible apply Same.mk); focus first | omega | (simp only [lns, ipRows_take]; omega)) | (apply Same.rfl) | (with_reducible first | apply Alt.l | apply Sl3.l | apply Cut.l | apply Turn.l | apply GiveN.lend)) <;> conv => whnf) | fail)
    · have b1 := k_Register L .no (uni un) o dv now (by omega) hTb.seq ho
      have b2 := k_refRegister L .no (uni un) o dv now (by omega) hTb.seq ho
      obtain ⟨e1, e2⟩ := hTb.reg (a := uni un) (o := o) (k := dv) (now := now) (by rw [uni_first (by omega)]; omega) d1 ⟨by omega, by omega⟩ ho
      rw [e1] at b1 b2
      generalize askR (curR L now) (uni un) o dv now = q at *
      obtain ⟨Q, s⟩ := q
      dsimp only at b1 b2 e2
      have hQ := e2.len
      repeat' (first | with_reducible apply True.intro | ((with_reducible apply Bif.tt e2.valid); (conv => whnf)) | ((first | (with_reducible first | apply Nm.set _ (int_mk _) | apply Nm.snoc _ (int_mk _) | apply Nm.rep _ (int_mk _) | apply Nm.set _ (bool_mk _) | apply Nm.snoc _ (bool_mk _) | apply Nm.rep _ (bool_mk _) | apply Nm.set _ (rfl) | apply Nm.snoc _ (rfl) | apply Nm.rep _ (rfl)) | ((with_reducible apply Nm.mk); focus ((try simp only [lns, ipRows_take]); exact rfl)) | ((with_reducible first | apply Wr.i64 | apply Wr.u8 | apply Wr.u16 | apply Wr.u32 | apply Wr.u64); focus omega) | ((with_reducible apply Need.mk); focus first | omega | (simp only [lns, ipRows_take]; omega) | exact List.cons_ne_nil _ _ | exact CleanP.nil rfl | exact CleanP.cell rfl rfl | exact CleanP.lst rfl (fun _ => rfl) | exact CleanP.lst2 rfl (fun _ => rfl) (fun _ => rfl) | kernel_rfl | (dsimp only; omega) | (unfold roomOK; simp only [lns, ipRows_take]; omega)) | ((with_reducible apply Elem.lst); focus first | omega | (simp only [lns, ipRows_take]; omega)) | (apply CallN.mk (b1)) | (apply CallN.mk (b2)) | (apply CallN.mk (k_rSame Q Q _ _ (by omega))) | (apply CallN.mk (k_rValid Q _ (by omega))) | (refine CallN.ex (k_tape_Next l _ 6 (by omega) ht (by omega)) ?_; rintro _ _ ⟨z, k8, rfl, rfl, z1, z2, z3⟩) | (with_reducible first | apply Bif.T | apply Bif.F) | ((with_reducible first | apply Bif.dec | apply Bif.beq | apply Bif.bne) <;> intro h <;> (try simp only [lns, ipRows_take] at h) <;> (try first | (exfalso; omega) | (exact absurd True.intro h) | (simp at h; done) | (exact absurd rfl h))) | (with_reducible first | apply Bif.not | apply Bif.and | apply Bif.or) | ((with_reducible apply Bif.mk) <;> intro h <;> (try first | (exfalso; omega) | (exact absurd True.intro h) | (simp at h; done) | (exact absurd rfl h))) | (with_reducible apply Same.rfl) | (apply Same.int; focus first | rfl | omega | (dsimp only; omega) | (simp only [lns, ipRows_take]; omega)) | (apply Same.bool; focus (with_reducible rfl)) | (apply Same.ov; (focus first | rfl | omega | (simp only [lns, ipRows_take]; omega)); focus first | rfl | omega | (simp only [lns, ipRows_take]; first | done | omega)) | ((with_reducible apply Same.mk); focus first | omega | (simp only [lns, ipRows_take]; omega)) | (apply Same.rfl) | (with_reducible first | apply Alt.l | apply Sl3.l | apply Cut.l | apply Turn.l | apply GiveN.lend)) <;> conv => whnf) | fail)
      (refine ⟨⟨Q, i + 1, now + z, k8, by omega, by omega, z3, e2⟩, ?_⟩; (try dsimp only); conv => whnf); repeat' (first | with_reducible apply True.intro | ((with_reducible apply Turn.r); (conv => whnf)) | ((first | (with_reducible first | apply Nm.set _ (int_mk _) | apply Nm.snoc _ (int_mk _) | apply Nm.rep _ (int_mk _) | apply Nm.set _ (bool_mk _) | apply Nm.snoc _ (bool_mk _) | apply Nm.rep _ (bool_mk _) | apply Nm.set _ (rfl) | apply Nm.snoc _ (rfl) | apply Nm.rep _ (rfl)) | ((with_reducible apply Nm.mk); focus ((try simp only [lns, ipRows_take]); exact rfl)) | ((with_reducible first | apply Wr.i64 | apply Wr.u8 | apply Wr.u16 | apply Wr.u32 | apply Wr.u64); focus omega) | ((with_reducible apply Need.mk); focus first | omega | (simp only [lns, ipRows_take]; omega) | exact List.cons_ne_nil _ _ | exact CleanP.nil rfl | exact CleanP.cell rfl rfl | exact CleanP.lst rfl (fun _ => rfl) | exact CleanP.lst2 rfl (fun _ => rfl) (fun _ => rfl) | kernel_rfl | (dsimp only; omega) | (unfold roomOK; simp only [lns, ipRows_take]; omega)) | ((with_reducible apply Elem.lst); focus first | omega | (simp only [lns, ipRows_take]; omega)) | (with_reducible first | apply Bif.T | apply Bif.F) | ((with_reducible first | apply Bif.dec | apply Bif.beq | apply Bif.bne) <;> intro h <;> (try simp only [lns, ipRows_take] at h) <;> (try first | (exfalso; omega) | (exact absurd True.intro h))) | (with_reducible first | apply Bif.not | apply Bif.and | apply Bif.or) | ((with_reducible apply Bif.mk) <;> intro h <;> (try first | (exfalso; omega) | (exact absurd True.intro h))) | (with_reducible apply Same.rfl) | (apply Same.int; focus first | rfl | omega | (dsimp only; omega) | (simp only [lns, ipRows_take]; omega)) | (apply Same.bool; focus (with_reducible rfl)) | (apply Same.ov; (focus first | rfl | omega | (simp only [lns, ipRows_take]; omega)); focus first | rfl | omega | (simp only [lns, ipRows_take]; first | done | omega)) | ((with_reducible apply Same.mk); focus first | omega | (simp only [lns, ipRows_take]; omega)) | (apply Same.rfl) | (with_reducible first | apply Alt.l | apply Sl3.l | apply Cut.l | apply Turn.l | apply GiveN.lend)) <;> conv => whnf) | fail)
  · repeat' (first | with_reducible apply True.intro | ((first | (with_reducible first | apply Nm.set _ (int_mk _) | apply Nm.snoc _ (int_mk _) | apply Nm.rep _ (int_mk _) | apply Nm.set _ (bool_mk _) | apply Nm.snoc _ (bool_mk _) | apply Nm.rep _ (bool_mk _) | apply Nm.set _ (rfl) | apply Nm.snoc _ (rfl) | apply Nm.rep _ (rfl)) | ((with_reducible apply Nm.mk); focus ((try simp only [lns, ipRows_take]); exact rfl)) | ((with_reducible first | apply Wr.i64 | apply Wr.u8 | apply Wr.u16 | apply Wr.u32 | apply Wr.u64); focus omega) | ((with_reducible apply Need.mk); focus first | omega | (simp only [lns, ipRows_take]; omega) | exact List.cons_ne_nil _ _ | exact CleanP.nil rfl | exact CleanP.cell rfl rfl | exact CleanP.lst rfl (fun _ => rfl) | exact CleanP.lst2 rfl (fun _ => rfl) (fun _ => rfl) | kernel_rfl | (dsimp only; omega) | (unfold roomOK; simp only [lns, ipRows_take]; omega)) | ((with_reducible apply Elem.lst); focus first | omega | (simp only [lns, ipRows_take]; omega)) | (apply CallN.mk (k_known)) | (with_reducible first | apply Bif.T | apply Bif.F) | ((with_reducible first | apply Bif.dec | apply Bif.beq | apply Bif.bne) <;> intro h <;> (try simp only [lns, ipRows_take] at h) <;> (try first | (exfalso; omega) | (exact absurd True.intro h))) | (with_reducible first | apply Bif.not | apply Bif.and | apply Bif.or) | ((with_reducible apply Bif.mk) <;> intro h <;> (try first | (exfalso; omega) | (exact absurd True.intro h))) | (with_reducible apply Same.rfl) | (apply Same.int; focus first | rfl | omega | (dsimp only; omega) | (simp only [lns, ipRows_take]; omega)) | (apply Same.bool; focus (with_reducible rfl)) | (apply Same.ov; (focus first | rfl | omega | (simp only [lns, ipRows_take]; omega)); focus first | rfl | omega | (simp only [lns, ipRows_take]; first | done | omega)) | ((with_reducible apply Same.mk); focus first | omega | (simp only [lns, ipRows_take]; omega)) | (apply Same.rfl) | (with_reducible first | apply Alt.l | apply Sl3.l | apply Cut.l | apply Turn.l | apply GiveN.lend)) <;> conv => whnf) | fail)
end Go.Fw
