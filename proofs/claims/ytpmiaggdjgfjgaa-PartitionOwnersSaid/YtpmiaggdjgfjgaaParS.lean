/- PartitionJoins: the walk. -/
import Derived.Test.YtpmiaggdjgfjgaaParI

namespace Go.Fw
open Go.Proofs
set_option maxHeartbeats 8000000
set_option maxRecDepth 4000
theorem foundM_len (now ep rt : Int) : (foundM now ep rt).1.mem.length ≤ 1 ∧ (foundM now ep rt).1.cl.length ≤ 0 := by
  unfold foundM
  split
  · simp [net0]
  · split <;> simp [net0]
theorem k_PartitionJoins (p q : Net) (t : List Int) (now epoch root : Int) (hp : ∀ x ∈ p.mem, 0 ≤ x) (hq : ∀ x ∈ q.mem, 0 ≤ x) (lp : p.mem.length ≤ 9223372036854775807 ∧ p.cl.length ≤ 9223372036854775807) (lq : q.mem.length ≤ 9223372036854775807 ∧ q.cl.length ≤ 9223372036854775807) :
    Con Try.prog 3 [netF p, netF q, .fs .no 1 (ints t), int now, int epoch, .v (.int .u64 root)] [] (bool true) [] := by
  have sp := k_small37 p lp.1 lp.2
  have sq := k_small37 q lq.1 lq.2
  by_cases hs : (p.mem.length ≤ 20 ∧ p.cl.length ≤ 70) ∧ (q.mem.length ≤ 20 ∧ q.cl.length ≤ 70)
  case neg =>
    refine spec_of_run ttok mixed (T0 := 340282366920938463463374607466396381439) (ts := [.tmp 12]) 178 rfl rfl rfl rfl (by simp) rfl ?_
    conv => whnf
    repeat' (first | with_reducible apply True.intro | ((first | (apply CallN.mk (sp)) | (apply CallN.mk (sq)) | (apply CallN.mk (k_known37)) | (with_reducible first | apply Bif.T | apply Bif.F) | ((with_reducible apply Bif.dec) <;> intro h <;> (try simp only [lns] at h) <;> (try (exfalso; omega))) | (with_reducible apply Bif.not) | (with_reducible apply Same.rfl)) <;> conv => whnf) | fail)
  obtain ⟨⟨p1, p2⟩, q1, q2⟩ := hs
  rw [decide_eq_true ⟨p1, p2⟩] at sp
  rw [decide_eq_true ⟨q1, q2⟩] at sq
  have rp : NetR p := ⟨hp, lp.1, by omega⟩
  have rq : NetR q := ⟨hq, lq.1, by omega⟩
  have jpq := k_joins p q now rp rq (by omega) (by omega) (by omega) (by omega)
  have vp := k_nValid p rp
  have wp := k_yValid p rp
  have sf := fun a b => foundM_len a b root
  have r1 := sf now epoch
  have ht : (t.take 400).length ≤ 400 := by simp; omega
  generalize hT : t.take 400 = l at ht
  have hN := k_made_New t
  rw [hT] at hN
  refine spec_of_run ttok mixed (T0 := 340282366920938463463374607466396381439) (ts := [.tmp 12]) 178 rfl rfl rfl rfl (by simp) rfl ?_
  conv => whnf
  repeat' (first | ((first | (apply CallN.mk (sp)) | (apply CallN.mk (sq)) | (apply CallN.mk (hN)) | (refine CallN.ex (k_world_Base l _ (by omega) ht) ?_; rintro _ _ ⟨b, k1, rfl, rfl, b1, b2, b3⟩) | (refine CallN.ex (k_world_Net l _ b (by omega) ht (by omega)) ?_; rintro _ _ ⟨B, k2, rfl, rfl, c1, c2⟩) | (refine CallN.ex (k_world_Time l _ b (by omega) ht (by omega)) ?_; rintro _ _ ⟨tm, k3, rfl, rfl, d1, d2, d3⟩) | (with_reducible first | apply Bif.T | apply Bif.F) | (with_reducible apply Bif.not)) <;> conv => whnf) | fail)
  rename_i A ka a1 a2
  have u1 := a1.X
  have u2 := c1.X
  repeat' (first | ((first | ((with_reducible apply Nm.mk); focus ((try simp only [lns]); exact rfl)) | ((with_reducible apply Need.mk); focus first | omega | (simp only [lns]; omega)) | (refine CallN.ex (k_spoiled l _ A (by omega) ht a1) ?_; rintro _ _ ⟨S, k4, rfl, rfl, e1, e2⟩) | (apply CallN.mk (k_xFound _ _ _)) | (apply CallN.mk (k_yFound _ _ _)) | (refine CallN.ex (k_tape_Next l _ 5 (by omega) ht (by omega)) ?_; rintro _ _ ⟨sm, k5, rfl, rfl, f1, f2, f3⟩) | (with_reducible apply Bif.F) | ((with_reducible apply Bif.bne) <;> intro h <;> (try simp only [lns] at h) <;> (try (exfalso; omega))) | (with_reducible apply GiveN.lend)) <;> conv => whnf) | fail)
  have r2 := sf b sm
  have v2 := k_nValid A u1.R
  rw [a1.v] at v2
  have v3 := k_nValid S e1.R
  have w3 := k_yValid S e1.R
  have j1 := k_joins A B tm u1.R u2.R (by have := u1.lm; omega) (by have := u2.lm; omega) (by have := u1.lc; omega) (by have := u2.lc; omega)
  have j2 := k_joins A B now u1.R u2.R (by have := u1.lm; omega) (by have := u2.lm; omega) (by have := u1.lc; omega) (by have := u2.lc; omega)
  have j3 := k_joins S B tm e1.R u2.R (by have := e1.lm; omega) (by have := u2.lm; omega) (by have := e1.lc; omega) (by have := u2.lc; omega)
  have j4 := k_joins A q tm u1.R rq (by have := u1.lm; omega) (by omega) (by have := u1.lc; omega) (by omega)
  repeat' (first | with_reducible apply True.intro | ((first | ((with_reducible apply Nm.mk); focus ((try simp only [lns]); exact rfl)) | ((with_reducible apply Need.mk); focus first | omega | (simp only [lns]; omega) | exact CleanP.nil rfl | kernel_rfl) | (apply CallN.mk (k_SameN (foundM now epoch root).1 _ _ _ _ (by omega) (by omega))) | (apply CallN.mk (k_SameN (foundM b sm root).1 _ _ _ _ (by omega) (by omega))) | (apply CallN.mk (k_xBetter p q)) | (apply CallN.mk (k_yBetter p q)) | (apply CallN.mk (k_xBetter A B)) | (apply CallN.mk (k_yBetter A B)) | (apply CallN.mk (vp)) | (apply CallN.mk (wp)) | (apply CallN.mk (v2)) | (apply CallN.mk (v3)) | (apply CallN.mk (w3)) | (apply CallN.mk (jpq)) | (apply CallN.mk (j1)) | (apply CallN.mk (j2)) | (apply CallN.mk (j3)) | (apply CallN.mk (j4)) | (apply CallN.mk (k_known37)) | (with_reducible first | apply Bif.T | apply Bif.F) | ((with_reducible first | apply Bif.beq | apply Bif.bne) <;> intro h <;> (try simp only [lns] at h) <;> (try first | (exfalso; omega) | (exact absurd rfl h))) | (with_reducible apply Bif.not) | (with_reducible apply Same.rfl) | (with_reducible apply GiveN.lend)) <;> conv => whnf) | fail)
end Go.Fw

/- PartitionLeaves: the walk. -/
namespace Go.Fw
open Go.Proofs
set_option maxHeartbeats 8000000
set_option maxRecDepth 4000
structure LvI where
  k : Int
  a : Int
  L : List Int
  ha : 0 ≤ a
  hk : 0 ≤ k
  hl : (L.length : Int) + k ≤ 5
theorem k_leavesT (n : Net) (p : List Int) (t1 t2 t3 : Tg) (hn : NetR n) (hp : p.length ≤ 1000) (lm : n.mem.length ≤ 1000) (lc : n.cl.length ≤ 1000) : Con Try.prog 29 [.agg [idV n.ep n.rt, .fs t1 1 (lst u64 n.mem), .fs t2 20 (lst clmV n.cl)], .fs t3 1 (lst u64 p)] [] (bool true) [] :=
  (k_leaves n p hn hp lm lc).le ⟨ArgLe.net, ArgLe.fs, True.intro⟩
theorem k_PartitionLeaves (p : Net) (present : List Int) (t : List Int) (hp : ∀ x ∈ p.mem, 0 ≤ x) (lp : p.mem.length ≤ 9223372036854775807 ∧ p.cl.length ≤ 9223372036854775807) (lq : present.length ≤ 9223372036854775807) :
    Con Try.prog 5 [netF p, .fs .no 1 (lst u64 present), .fs .no 1 (ints t)] [] (bool true) [] := by
  have sp := k_small37 p lp.1 lp.2
  by_cases hs : (p.mem.length ≤ 20 ∧ p.cl.length ≤ 70) ∧ present.length ≤ 40
  case neg =>
    refine spec_of_run ttok mixed (T0 := 268963791) (ts := [.tmp 6]) 67 rfl rfl rfl rfl (by simp) rfl ?_
    conv => whnf
    repeat' (first | with_reducible apply True.intro | ((first | ((with_reducible apply Nm.mk); focus ((try simp only [lns]); exact rfl)) | (apply CallN.mk (sp)) | (apply CallN.mk (k_known37)) | (with_reducible first | apply Bif.T | apply Bif.F) | ((with_reducible apply Bif.dec) <;> intro h <;> (try simp only [lns] at h) <;> (try (exfalso; omega))) | (with_reducible apply Bif.not) | (with_reducible apply Same.rfl)) <;> conv => whnf) | fail)
  obtain ⟨⟨p1, p2⟩, q1⟩ := hs
  rw [decide_eq_true ⟨p1, p2⟩] at sp
  have rp : NetR p := ⟨hp, lp.1, by omega⟩
  have j0 := k_leaves p present rp (by omega) (by omega) (by omega)
  have ht : (t.take 400).length ≤ 400 := by simp; omega
  generalize hT : t.take 400 = l at ht
  have hN := k_made_New t
  rw [hT] at hN
  refine spec_of_run ttok mixed (T0 := 268963791) (ts := [.tmp 6]) 67 rfl rfl rfl rfl (by simp) rfl ?_
  conv => whnf
  repeat' (first | ((first | ((with_reducible apply Nm.mk); focus ((try simp only [lns]); exact rfl)) | (apply CallN.mk (sp)) | (apply CallN.mk (hN)) | (refine CallN.ex (k_world_Net l _ 100 (by omega) ht (by omega)) ?_; rintro _ _ ⟨A, k2, rfl, rfl, c1, c2⟩) | (refine CallN.ex (k_tape_Next l _ 5 (by omega) ht (by omega)) ?_; rintro _ _ ⟨sm, k5, rfl, rfl, f1, f2, f3⟩) | (with_reducible first | apply Bif.T | apply Bif.F) | ((with_reducible apply Bif.dec) <;> intro h <;> (try simp only [lns] at h) <;> (try (exfalso; omega))) | (with_reducible apply Bif.not)) <;> conv => whnf) | fail)
  refine LoopN.adopt 9 1 rfl (by simp) ?_
  refine loop_keep ttok mixed (T0 := 268963791) [1] (ι := LvI)
    (fun p => [(3, .pb 0 []), (7, .pb 1 []), (8, .pb 2 []), (9, .ov 1 3 0 p.L.length), (10, int p.k)]) (fun i => [.cells (netF p), .cells (tape l i.a), .cells (netF A), .arr none 1 (lst u64 i.L)]) (fun p => p.k.toNat) ⟨sm, k5, [], f3, f1, by simp; omega⟩ ?_
  conv => whnf
  repeat' (first | ((apply Same.mk rfl); conv => whnf) | fail)
  rintro ⟨k, a, L, ha, hk, hl⟩
  dsimp only
  conv => whnf
  by_cases hk1 : k > 0
  · repeat' (first | ((first | (with_reducible apply Nm.snoc _ (rfl)) | ((with_reducible apply Nm.mk); focus ((try simp only [lns]); exact rfl)) | ((with_reducible apply Wr.i64); focus omega) | ((with_reducible apply Need.mk); focus first | (simp only [lns]; omega) | (unfold roomOK; simp only [lns]; omega)) | (refine CallN.ex (k_world_EUI l _ (by omega) ht) ?_; rintro _ _ ⟨eu, k6, rfl, rfl, e1, e2, e3⟩) | ((with_reducible apply Bif.dec) <;> intro h <;> (try simp only [lns] at h) <;> (try (exfalso; omega))) | (with_reducible apply Alt.l)) <;> conv => whnf) | fail)
    (refine ⟨⟨k - 1, k6, L ++ [eu], e3, by omega, by simp; omega⟩, ?_⟩; (try dsimp only); conv => whnf); repeat' (first | with_reducible apply True.intro | ((with_reducible apply Turn.r); (conv => whnf)) | ((apply Same.mk (snocU L eu)); (conv => whnf)) | ((first | ((with_reducible apply Need.mk); focus omega) | (with_reducible apply Same.rfl) | (apply Same.int; focus rfl) | (with_reducible apply Cut.l)) <;> conv => whnf) | fail)
  · have u := c1.X
    have v1 := fun t => k_leavesT A L .no .no t u.R (by omega) (by have := u.lm; omega) (by have := u.lc; omega)
    have v2 := k_leaves A present u.R (by omega) (by have := u.lm; omega) (by have := u.lc; omega)
    have v3 := fun t => k_leavesT ⟨1073741824, A.rt, A.mem, A.cl⟩ L .no .no t ⟨u.R.p, u.R.lm, u.R.lc⟩ (by omega) (by have := u.lm; show A.mem.length ≤ 1000; omega) (by have := u.lc; show A.cl.length ≤ 1000; omega)
    repeat' (first | ((first | ((with_reducible apply Nm.mk); focus ((try simp only [lns]); exact rfl)) | ((with_reducible apply Need.mk); focus first | (simp only [lns]; omega) | exact CleanP.nil rfl) | (apply CallN.mk (j0)) | (apply CallN.mk (v1 _)) | (apply CallN.mk (v2)) | (apply CallN.mk (v3 _)) | (refine CallN.ex (k_spoiled l _ A (by omega) ht c1) ?_; rintro _ _ ⟨S, k7, rfl, rfl, g1, g2⟩) | (with_reducible apply Bif.T) | ((with_reducible apply Bif.dec) <;> intro h <;> (try simp only [lns] at h) <;> (try (exfalso; omega))) | (with_reducible apply GiveN.lend)) <;> conv => whnf) | fail)
    have v4 := fun t => k_leavesT S L .no .no t g1.R (by omega) (by have := g1.lm; omega) (by have := g1.lc; omega)
    repeat' (first | with_reducible apply True.intro | ((first | ((with_reducible apply Need.mk); focus exact CleanP.nil rfl) | (apply CallN.mk (v4 _)) | (apply CallN.mk (k_known37)) | (with_reducible apply Bif.T) | (with_reducible apply Same.rfl)) <;> conv => whnf) | fail)
end Go.Fw

/- What comes in: numbers, claims, networks. -/
namespace Go.Fw
set_option maxRecDepth 4000
open Go.Proofs
theorem shp_int {t d : Nat} {s : SV} (ht : tt t = .int .i64) (h : Shp Try.prog tt (d + 1) t s) : ∃ n, s = int n ∧ -9223372036854775808 ≤ n ∧ n ≤ 9223372036854775807 := by
  simp only [Shp, ht] at h
  obtain ⟨n, rfl, hn⟩ := h
  exact ⟨n, rfl, bounds_i64 hn⟩
theorem shp_u64 {t d : Nat} {s : SV} (ht : tt t = .int .u64) (h : Shp Try.prog tt (d + 1) t s) : ∃ n, s = .v (.int .u64 n) ∧ 0 ≤ n := by
  simp only [Shp, ht] at h
  obtain ⟨n, rfl, hn⟩ := h
  refine ⟨n, rfl, ?_⟩
  simp [Lit.wf, IntKind.min, IntKind.max, IntKind.signed, IntKind.bits] at hn
  omega
theorem shp_ints {d : Nat} {s : SV} (h : Shp Try.prog tt (d + 2) 30 s) : ∃ l, s = .fs .no 1 (ints l) ∧ l.length ≤ maxLen := by
  obtain ⟨rows, rfl, hl, h⟩ := h
  obtain ⟨l, rfl, _⟩ := rows_of int (fun _ => True) fun r hr => let ⟨n, h1, _⟩ := shp_int (d := d) rfl (h 3 Try.underlying30 r hr); ⟨n, h1, trivial⟩
  exact ⟨l, rfl, by simpa using hl⟩
theorem shp_euis {d : Nat} {s : SV} (h : Shp Try.prog tt (d + 2) 26 s) : ∃ l, s = .fs .no 1 (lst u64 l) ∧ (∀ x ∈ l, 0 ≤ x) ∧ l.length ≤ 9223372036854775807 := by
  obtain ⟨rows, rfl, hl, h⟩ := h
  obtain ⟨l, rfl, hs⟩ := rows_of u64 (fun x => 0 ≤ x) fun r hr => let ⟨n, h1, h2⟩ := shp_u64 (d := d) rfl (h 23 Try.underlying26 r hr); ⟨n, h1, h2⟩
  exact ⟨l, rfl, hs, Nat.le_trans (by simpa using hl) (by decide)⟩
theorem shp_ip {d : Nat} {s : SV} (h : Shp Try.prog tt (d + 1) 52 s) : ∃ a, s = ipV a := by
  obtain ⟨l, rfl, h1, h2⟩ := h
  exact ⟨⟨l, h1, h2⟩, rfl⟩
theorem shp_clm {d : Nat} {s : SV} (h : Shp Try.prog tt (d + 2) 54 s) : ∃ c, s = clmV c := by
  obtain ⟨cs, rfl, hl, h⟩ := h
  match cs, hl with
  | [a, b, c, e, f], _ =>
    obtain ⟨ip, rfl⟩ := shp_ip (d := d) (h 0 _ _ rfl rfl)
    obtain ⟨eu, rfl, _⟩ := shp_u64 (d := d) rfl (h 1 _ _ rfl rfl)
    obtain ⟨sq, rfl, _⟩ := shp_int (d := d) rfl (h 2 _ _ rfl rfl)
    obtain ⟨si, rfl, _⟩ := shp_int (d := d) rfl (h 3 _ _ rfl rfl)
    obtain ⟨up, rfl, _⟩ := shp_int (d := d) rfl (h 4 _ _ rfl rfl)
    exact ⟨⟨ip, eu, sq, si, up⟩, rfl⟩
theorem shp_clms {d : Nat} {s : SV} (h : Shp Try.prog tt (d + 3) 27 s) : ∃ l, s = .fs .no 20 (lst clmV l) ∧ l.length ≤ 9223372036854775807 := by
  obtain ⟨rows, rfl, hl, h⟩ := h
  obtain ⟨l, rfl, _⟩ := rows_of clmV (fun _ => True) fun r hr => let ⟨n, h1⟩ := shp_clm (d := d) (h 54 Try.underlying27 r hr); ⟨n, h1, trivial⟩
  exact ⟨l, rfl, Nat.le_trans (by simpa using hl) (by decide)⟩
theorem shp_idn {d : Nat} {s : SV} (h : Shp Try.prog tt (d + 2) 25 s) : ∃ e r, s = idV e r := by
  obtain ⟨cs, rfl, hl, h⟩ := h
  match cs, hl with
  | [a, b], _ =>
    obtain ⟨n1, rfl, _⟩ := shp_int (d := d) rfl (h 0 _ _ rfl rfl)
    obtain ⟨n2, rfl, _⟩ := shp_u64 (d := d) rfl (h 1 _ _ rfl rfl)
    exact ⟨n1, n2, rfl⟩
theorem shp_net {d : Nat} {s : SV} (h : Shp Try.prog tt (d + 4) 29 s) : ∃ n, s = netF n ∧ (∀ x ∈ n.mem, 0 ≤ x) ∧ n.mem.length ≤ 9223372036854775807 ∧ n.cl.length ≤ 9223372036854775807 := by
  obtain ⟨cs, rfl, hl, h⟩ := h
  match cs, hl with
  | [a, b, c], _ =>
    obtain ⟨e, r, rfl⟩ := shp_idn (d := d + 1) (h 0 _ _ rfl rfl)
    obtain ⟨m, rfl, m1, m2⟩ := shp_euis (d := d + 1) (h 1 _ _ rfl rfl)
    obtain ⟨l, rfl, l1⟩ := shp_clms (d := d) (h 2 _ _ rfl rfl)
    exact ⟨⟨e, r, m, l⟩, rfl, m1, m2, l1⟩
end Go.Fw
