/- DetectionJoins: claims that are made are valid. -/
import Derived.Test.YtpmiaggdjgfjgaaGreatDetT
namespace Go.Fw
set_option maxRecDepth 4000
open Go.Proofs
set_option maxHeartbeats 4000000
def TapeClmsV (l : List Int) (n : Nat) (r : SV) (hp' : List OB) : Prop := ∃ (L : List Clm) (k' : Int), r = .ov 20 1 0 L.length ∧ hp' = [.cells (tape l k'), .arr none 20 (lst clmV L)] ∧ L.length ≤ n ∧ 0 ≤ k' ∧ validR L = true
def TapeClmsU (l : List Int) (n : Nat) (r : SV) (hp' : List OB) : Prop := ∃ (L : List Clm) (k' : Int), r = .ov 20 1 0 L.length ∧ hp' = [.cells (tape l k'), .arr none 20 (lst clmV L)] ∧ L.length ≤ n ∧ 0 ≤ k' ∧ validR L = true ∧ ∀ x ∈ L, 1 ≤ x.eui ∧ x.eui ≤ 5
structure ClmsJ (n : Nat) where
  L : List Clm
  k : Int
  a : Int
  ha : 0 ≤ a
  hk : 0 ≤ k
  hn : L.length + k.toNat ≤ n
  ok : (∀ x ∈ L, clmOK x = true) ∧ L.Pairwise byIP
  eu : ∀ x ∈ L, 1 ≤ x.eui ∧ x.eui ≤ 5
theorem insU5 {L : List Clm} {c : Clm} (h : ∀ x ∈ L, 1 ≤ x.eui ∧ x.eui ≤ 5) (hc : 1 ≤ c.eui ∧ c.eui ≤ 5) : ∀ x ∈ insM L c, 1 ≤ x.eui ∧ x.eui ≤ 5 := fun x hx => by
  rcases (insM_mem _ _ _).1 hx with g | g
  · exact h x g
  · rw [g]; exact hc
theorem k_world_ClaimsU (l : List Int) (at_ : Int) (n : Nat) (now : Int) (hk : 0 ≤ at_) (hl : l.length ≤ 400) (hn : n ≤ 10) (hb : 0 ≤ now ∧ now ≤ 1099511627776) :
    ∃ r hp', TapeClmsU l n r hp' ∧ Con Tryz.prog 9 [.pb 0 [], int n, int now] [.cells (tape l at_)] r hp' := by
  refine spec_of_runR ttok mixed (T0 := 18018521678354375) (ts := [.tmp 6]) 59 rfl rfl rfl rfl (by simp) rfl ?_
  conv => whnf
  repeat' (first | ((first | ((with_reducible apply Wr.i64); focus omega) | (refine CallN.ex (k_tape_Next l _ _ (by omega) hl (by omega)) ?_; rintro _ _ ⟨x0, k0, rfl, rfl, a1, a2, a3⟩) | (with_reducible apply Frz.l)) <;> conv => whnf) | fail)
  refine LoopN.adopt 7 20 rfl (by simp) ?_
  refine loop_keep ttok mixed (T0 := 18018521678354375) [0, 2] (ι := ClmsJ n)
    (fun p => [(7, .ov 20 1 0 p.L.length), (8, int p.k)]) (fun p => [.cells (tape l p.a), .arr none 20 (lst clmV p.L)]) (fun p => p.k.toNat) ⟨[], x0, k0, a3, a1, by simp; omega, by simp, by simp⟩ ?_
  conv => whnf
  repeat' (first | ((apply Same.mk rfl); conv => whnf) | ((with_reducible apply Frz.l) <;> conv => whnf) | fail)
  rintro ⟨L, k, a, ha, hk0, hn0, hok, hEu⟩
  dsimp only
  conv => whnf
  by_cases hk1 : k > 0
  · repeat' (first | ((first | ((with_reducible apply Wr.i64); focus omega) | ((with_reducible apply Need.mk); focus kernel_rfl) | (refine CallN.ex (k_tape_Next l _ 6 (by omega) hl (by omega)) ?_; rintro _ _ ⟨s6, ka, rfl, rfl, b1, b2, b3⟩) | (refine CallN.ex (k_tape_Next l _ 60 (by omega) hl (by omega)) ?_; rintro _ _ ⟨s60, kb, rfl, rfl, c1, c2, c3⟩) | (refine CallN.ex (k_world_IP l _ (by omega) hl) ?_; rintro _ _ ⟨ip, kc, rfl, rfl, d1⟩) | (refine CallN.ex (k_world_EUI l _ (by omega) hl) ?_; rintro _ _ ⟨eu, kd, rfl, rfl, e1, e2, e3⟩) | (refine CallN.ex (k_world_Time l _ now (by omega) hl hb) ?_; rintro _ _ ⟨tm, ke, rfl, rfl, f1, f2, f3⟩) | ((with_reducible apply Bif.dec) <;> intro h <;> (try simp only [lns] at h) <;> (try (exfalso; omega))) | (with_reducible apply Frz.l)) <;> conv => whnf) | fail)
    refine loop_keep ttok mixed (T0 := 18018521678354375) [0, 2, 7, 8, 9, 38, 39] (ι := {p : Nat × Bool // p.1 ≤ L.length ∧ (p.2 = false → ∀ y ∈ L.take p.1, y.ip ≠ ip)})
      (fun p => [(10, bool p.1.2), (40, int (p.1.1 : Int))]) (fun _ => [.cells (tape l kb), .arr none 20 (lst clmV L), .cells (clmV ⟨ip, eu, s6, tm, min 1099511627776 (tm + s60)⟩)]) (fun p => L.length - p.1.1) ⟨(0, false), Nat.zero_le _, fun _ y hy => by simp at hy⟩ ?_
    conv => whnf
    repeat' (first | ((apply Same.mk rfl); conv => whnf) | ((with_reducible apply Frz.l) <;> conv => whnf) | fail)
    rintro ⟨⟨j, b⟩, hj, hne⟩
    dsimp only at hj hne ⊢
    conv => whnf
    by_cases hjl : j < L.length
    · cases b
      · repeat' (first | ((first | ((with_reducible apply Nm.mk); focus ((try simp only [lns]); exact rfl)) | ((with_reducible apply Wr.i64); focus omega) | ((with_reducible apply Need.mk); focus omega) | ((with_reducible apply Elem.lst); focus omega) | (with_reducible apply Bif.F) | ((with_reducible apply Bif.dec) <;> intro h <;> (try simp only [lns] at h) <;> (try (exfalso; omega))) | (with_reducible apply Frz.l)) <;> conv => whnf) | fail)
        (refine ⟨⟨(j + 1, (gt L j).ip.1 == ip.1), hjl, fun he y hy => by
          dsimp only at he hy
          rw [take_gt hjl] at hy
          rcases List.mem_append.1 hy with hy | hy
          · exact hne rfl y hy
          · rw [List.mem_singleton.1 hy]
            intro e
            rw [e] at he
            simp at he⟩, ?_⟩; (try dsimp only); conv => whnf); repeat' (first | with_reducible apply True.intro | ((first | ((with_reducible apply Need.mk); focus omega) | (with_reducible apply Same.rfl) | (apply Same.int; focus rfl) | (apply Same.bool; focus (with_reducible rfl)) | (with_reducible apply Turn.l) | (with_reducible apply Frz.l)) <;> conv => whnf) | fail)
      · repeat' (first | ((first | ((with_reducible apply Nm.mk); focus ((try simp only [lns]); exact rfl)) | ((with_reducible apply Wr.i64); focus omega) | ((with_reducible apply Need.mk); focus omega) | ((with_reducible apply Elem.lst); focus omega) | (with_reducible apply Bif.T) | ((with_reducible apply Bif.dec) <;> intro h <;> (try simp only [lns] at h) <;> (try (exfalso; omega))) | (with_reducible apply Frz.l)) <;> conv => whnf) | fail)
        (refine ⟨⟨(j + 1, true), hjl, fun he => by simp at he⟩, ?_⟩; (try dsimp only); conv => whnf); repeat' (first | with_reducible apply True.intro | ((first | ((with_reducible apply Need.mk); focus omega) | (with_reducible apply Same.rfl) | (apply Same.int; focus rfl) | (apply Same.bool; focus (with_reducible rfl)) | (with_reducible apply Turn.l) | (with_reducible apply Frz.l)) <;> conv => whnf) | fail)
    · cases b
      · have hjE : j = L.length := by omega
        rw [hjE, List.take_length] at hne
        have hI : (∀ x ∈ insM L ⟨ip, eu, s6, tm, min 1099511627776 (tm + s60)⟩, clmOK x = true) ∧ (insM L ⟨ip, eu, s6, tm, min 1099511627776 (tm + s60)⟩).Pairwise byIP := by
          refine ⟨fun x hx => ?_, insM_pw hok.2 (hne rfl)⟩
          rcases (insM_mem _ _ _).1 hx with hx | hx
          · exact hok.1 x hx
          · rw [hx]
            exact decide_eq_true (show eu ≠ 0 ∧ 0 ≤ s6 ∧ s6 ≤ 1073741824 ∧ 0 ≤ tm ∧ tm ≤ 1099511627776 ∧ 0 ≤ min 1099511627776 (tm + s60) ∧ min 1099511627776 (tm + s60) ≤ 1099511627776 ∧ tm ≤ min 1099511627776 (tm + s60) by omega)
        have hl2 := insM_len L ⟨ip, eu, s6, tm, min 1099511627776 (tm + s60)⟩
        repeat' (first | ((first | ((with_reducible apply Nm.mk); focus ((try simp only [lns]); exact rfl)) | ((with_reducible apply Wr.i64); focus omega) | ((with_reducible apply Need.mk); focus first | (simp only [lns]; omega) | exact CleanP.lst rfl (fun _ => rfl)) | (apply CallN.mk (k_refInsert L _ ⟨ip, eu, s6, tm, min 1099511627776 (tm + s60)⟩ (by omega))) | (with_reducible apply Bif.F) | ((with_reducible apply Bif.dec) <;> intro h <;> (try simp only [lns] at h) <;> (try (exfalso; omega))) | (with_reducible apply Bif.not) | (with_reducible apply GiveN.lend) | (with_reducible apply Frz.l)) <;> conv => whnf) | fail)
        (refine ⟨⟨insM L ⟨ip, eu, s6, tm, min 1099511627776 (tm + s60)⟩, k - 1, kb, by omega, by omega, by omega, hI, insU5 hEu ⟨e1, e2⟩⟩, ?_⟩; (try dsimp only); conv => whnf); repeat' (first | with_reducible apply True.intro | ((with_reducible apply Turn.r); conv => whnf) | ((first | ((with_reducible apply Need.mk); focus omega) | (with_reducible apply Same.rfl) | (apply Same.int; focus rfl) | (with_reducible apply Cut.l) | (with_reducible apply Frz.l)) <;> conv => whnf) | fail)
      · repeat' (first | ((first | ((with_reducible apply Wr.i64); focus omega) | (with_reducible apply Bif.T) | ((with_reducible apply Bif.dec) <;> intro h <;> (try simp only [lns] at h) <;> (try (exfalso; omega))) | (with_reducible apply Bif.not) | (with_reducible apply Frz.l)) <;> conv => whnf) | fail)
        (refine ⟨⟨L, k - 1, kb, by omega, by omega, by omega, hok, hEu⟩, ?_⟩; (try dsimp only); conv => whnf); repeat' (first | with_reducible apply True.intro | ((first | ((with_reducible apply Need.mk); focus omega) | (with_reducible apply Same.rfl) | (apply Same.int; focus rfl) | (with_reducible apply Turn.l) | (with_reducible apply Frz.l)) <;> conv => whnf) | fail)
  · repeat' (first | ((first | ((with_reducible apply Bif.dec) <;> intro h <;> (try simp only [lns] at h) <;> (try (exfalso; omega))) | (with_reducible apply Frz.l)) <;> conv => whnf) | fail)
    (refine ⟨_, _, ⟨L, a, rfl, rfl, by omega, ha, validR_mk (by omega) hok.1 hok.2, hEu⟩, ?_⟩; conv => whnf); repeat' (first | with_reducible apply True.intro | ((first | (with_reducible apply Same.rfl) | (with_reducible apply Cut.l) | (with_reducible apply Frz.l)) <;> conv => whnf) | fail)
theorem k_world_ClaimsV (l : List Int) (at_ : Int) (n : Nat) (now : Int) (hk : 0 ≤ at_) (hl : l.length ≤ 400) (hn : n ≤ 10) (hb : 0 ≤ now ∧ now ≤ 1099511627776) :
    ∃ r hp', TapeClmsV l n r hp' ∧ Con Tryz.prog 9 [.pb 0 [], int n, int now] [.cells (tape l at_)] r hp' := by
  obtain ⟨r, hp', ⟨L, k', e1, e2, h1, h2, h3, _⟩, hc⟩ := k_world_ClaimsU l at_ n now hk hl hn hb
  exact ⟨r, hp', ⟨L, k', e1, e2, h1, h2, h3⟩, hc⟩
/-! ### Merges of merges -/
theorem MrgOK.ex (s : List Clm) : ∃ R L, MrgOK s R L := by
  have key : ∀ k, k ≤ s.length → ∃ out lost, PasOK s out lost k := by
    intro k
    induction k with
    | zero => exact fun _ => ⟨[], [], PasOK.start s⟩
    | succ k ih =>
      intro hk
      obtain ⟨out, lost, h⟩ := ih (by omega)
      obtain ⟨r, r1, r2⟩ := best_ex (gt_mem (l := s) (i := k) (by omega))
      exact ⟨_, _, h.step (by omega) r1 r2⟩
  obtain ⟨out, lost, h⟩ := key s.length (Nat.le_refl _)
  exact ⟨out, lost, h.done⟩
theorem mergeM_ok {a b : List Clm} {now : Int} (ha : validR a = true) (hb : validR b = true) (hn : 0 ≤ now ∧ now ≤ 1099511627776) (hl : a.length + b.length ≤ 64) :
    ∃ R L, MrgOK (cur a now ++ cur b now) R L ∧ mergeM a b now = (R, L, 0) := by
  obtain ⟨R, L, h⟩ := MrgOK.ex (cur a now ++ cur b now)
  refine ⟨R, L, h, ?_⟩
  have h1 := h.len.1
  rw [List.length_append] at h1
  have c1 := cur_len a now
  have c2 := cur_len b now
  rw [mergeM, if_pos ⟨ha, hb⟩, if_pos hn, mrgP_eq h, mrgE, if_neg (by dsimp only; omega)]
theorem cur_cur {R cs : List Clm} {now : Int} (h : ∀ x ∈ R, x ∈ cs) (hc : ∀ x ∈ cs, ¬ x.upto ≤ now) : cur R now = R :=
  List.filter_eq_self.2 fun r hr => by simp [hc r (h r hr)]
theorem cur_upto {r : List Clm} {now : Int} : ∀ x ∈ cur r now, ¬ x.upto ≤ now := fun x hx => by
  have := (List.mem_filter.1 hx).2
  simpa using this
theorem joins_all {a b c : List Clm} {now : Int} (ha : validR a = true) (hb : validR b = true) (hc : validR c = true) (hn : 0 ≤ now ∧ now ≤ 1099511627776) (la : a.length ≤ 6) (lb : b.length ≤ 6) (lc : c.length ≤ 6) :
    ∃ R L S T X Lx Ly, mergeM a b now = (R, L, 0) ∧ mergeM b a now = (R, L, 0) ∧ mergeM b c now = (S, T, 0) ∧ mergeM R c now = (X, Lx, 0) ∧ mergeM a S now = (X, Ly, 0) ∧ mergeM a a now = (cur a now, [], 0) ∧
      R.length ≤ 12 ∧ L.length ≤ 12 ∧ S.length ≤ 12 ∧ X.length ≤ 18 := by
  obtain ⟨R, L, h1, e1⟩ := mergeM_ok ha hb hn (by omega)
  obtain ⟨R2, L2, h2, e2⟩ := mergeM_ok hb ha hn (by omega)
  obtain ⟨S, T, h3, e3⟩ := mergeM_ok hb hc hn (by omega)
  have vR : validR R = true := by have := mergeM_valid a b now (by rw [e1]); rwa [e1] at this
  have vS : validR S = true := by have := mergeM_valid b c now (by rw [e3]); rwa [e3] at this
  have ca := cur_len a now
  have cb := cur_len b now
  have cc := cur_len c now
  have l1 := h1.len
  have l3 := h3.len
  rw [List.length_append] at l1 l3
  obtain ⟨X, Lx, h4, e4⟩ := mergeM_ok vR hc hn (by omega)
  obtain ⟨Y, Ly, h5, e5⟩ := mergeM_ok ha vS hn (by omega)
  have uab : ∀ x ∈ cur a now ++ cur b now, ¬ x.upto ≤ now := fun x hx => (List.mem_append.1 hx).elim (cur_upto x) (cur_upto x)
  have ubc : ∀ x ∈ cur b now ++ cur c now, ¬ x.upto ≤ now := fun x hx => (List.mem_append.1 hx).elim (cur_upto x) (cur_upto x)
  rw [cur_cur h1.sub.1 uab] at h4
  rw [cur_cur h3.sub.1 ubc] at h5
  have hXY : X = Y := by
    refine pw_unique byIP_asym h4.rs h5.rs fun x => ?_
    have q1 := best_best (ds := cur c now) h1.rm x
    have q2 : bestIn (cur a now ++ S) x ↔ bestIn (S ++ cur a now) x := best_congr (fun y => by simp only [List.mem_append]; exact Or.comm) x
    have q3 := best_best (ds := cur a now) h3.rm x
    rw [h4.rm, h5.rm]
    refine q1.trans (Iff.trans ?_ (q2.trans q3).symm)
    refine best_congr (fun y => ?_) x
    simp only [List.mem_append]
    constructor
    · rintro ((h | h) | h)
      · exact .inr h
      · exact .inl (.inl h)
      · exact .inl (.inr h)
    · rintro ((h | h) | h)
      · exact .inl (.inr h)
      · exact .inr h
      · exact .inl (.inl h)
  subst hXY
  have hRL := (h1.congr (ds := cur b now ++ cur a now) fun y => by simp only [List.mem_append]; exact Or.comm).unique h2
  have h6 : MrgOK (cur a now ++ cur a now) (cur a now) [] := (MrgOK.plain (cur_pw ha now)).congr fun x => by simp
  have e6 : mergeM a a now = (cur a now, [], 0) := by rw [mergeM, if_pos ⟨ha, ha⟩, if_pos hn, mrgP_eq h6, mrgE, if_neg (by dsimp only; omega)]
  have l4 := h4.len.1
  rw [List.length_append] at l4
  exact ⟨R, L, S, T, X, Lx, Ly, e1, by rw [e2, hRL.1, hRL.2], e3, e4, e5, e6, by omega, by omega, by omega, by omega⟩
end Go.Fw
