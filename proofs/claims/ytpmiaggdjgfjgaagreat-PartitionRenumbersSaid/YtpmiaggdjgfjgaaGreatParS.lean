/- Networks that are made. -/
import Derived.Test.YtpmiaggdjgfjgaaGreatParF

namespace Go.Fw
open Go.Proofs
set_option maxHeartbeats 4000000
set_option maxRecDepth 4000
theorem k_CloneU (l : List Int) (t : Tg) (hl : l.length ≤ 1000000) : Con Tryz.prog 29 [.fs t 1 (lst u64 l)] [] (.ov 1 0 0 l.length) [.arr none 1 (lst u64 l)] := by
  rcases l with _ | ⟨a, l⟩
  · refine Con.nil1 ?_ ?_
    · refine spec_of_run ttok mixed (T0 := 21) (ts := [.tmp 2]) 8 rfl rfl rfl rfl (by simp) rfl ?_
      conv => whnf
      repeat' (first | with_reducible apply True.intro | ((first | (with_reducible apply Bif.T) | (with_reducible apply Same.rfl) | (apply Same.rfl) | (with_reducible apply Frz.l)) <;> conv => whnf) | fail)
    · refine spec_of_run ttok mixed (T0 := 21) (ts := [.tmp 2]) 8 rfl rfl rfl rfl (by simp) rfl ?_
      conv => whnf
      repeat' (first | with_reducible apply True.intro | ((first | ((with_reducible apply Nm.mk); focus ((try simp only [lns]); exact rfl)) | ((with_reducible apply Need.mk); focus (unfold roomOK; simp only [lns]; omega)) | (with_reducible apply Bif.F) | (with_reducible apply Same.rfl) | (apply Same.rfl) | (with_reducible first | apply Alt.l | apply Cut.l) | (with_reducible apply Frz.l)) <;> conv => whnf) | fail)
  · have hl' : l.length + 1 ≤ 1000000 := hl
    clear hl
    obtain ⟨cap, nn⟩ := t
    cases nn
    all_goals
      refine spec_of_run ttok mixed (T0 := 21) (ts := [.tmp 2]) 8 rfl rfl rfl rfl (by simp) rfl ?_
      conv => whnf
      repeat' (first | with_reducible apply True.intro | ((first | ((with_reducible apply Nm.mk); focus ((try simp only [lns]); exact rfl)) | ((with_reducible apply Need.mk); focus first | exact List.cons_ne_nil _ _ | (unfold roomOK; simp only [lns]; omega)) | (with_reducible apply Bif.F) | (with_reducible apply Same.rfl) | (apply Same.rfl) | (with_reducible first | apply Alt.l | apply Cut.l) | (with_reducible apply Frz.l)) <;> conv => whnf) | fail)
/-- What a made network is. -/
structure NetM (n : Net) : Prop where
  v : validN n = true
  e3 : n.ep ≤ 3
  lm : n.mem.length ≤ 5
  lc : n.cl.length ≤ 6
  hi : ∀ x ∈ n.mem, x ≤ 5
  eu : ∀ x ∈ n.cl, 1 ≤ x.eui ∧ x.eui ≤ 5
theorem NetM.R {n : Net} (h : NetM n) : NetR n :=
  ⟨fun x hx => Int.le_of_lt ((validN_iff.1 h.v).2.1.2.2.1 x hx), by have := h.lm; omega, by have := h.lc; omega⟩
theorem snocU (m : List Int) (k : Int) : m.length + 1 = (m ++ [k]).length := by simp
theorem snocL (m : List Int) (k : Int) : lst u64 m ++ [SV.v (Value.int IntKind.u64 k)] = lst u64 (m ++ [k]) := by simp [lst]; rfl
structure NetI where
  m : List Int
  k : Int
  a : Int
  ha : 0 ≤ a
  hk : 1 ≤ k ∧ k ≤ 6
  pw : m.Pairwise (· < ·)
  lt : ∀ x ∈ m, 0 < x ∧ x < k
  ln : (m.length : Int) + 1 ≤ k
theorem NetI.snoc {m : List Int} {k : Int} (hk : 1 ≤ k ∧ k ≤ 5) (pw : m.Pairwise (· < ·)) (lt : ∀ x ∈ m, 0 < x ∧ x < k) : (m ++ [k]).Pairwise (· < ·) ∧ ∀ x ∈ m ++ [k], 0 < x ∧ x < k + 1 :=
  ⟨snoc_pw pw fun z hz => (lt z hz).2, fun x hx => by
    rcases List.mem_append.1 hx with h | h
    · have := lt x h; omega
    · rw [List.mem_singleton.1 h]; omega⟩
theorem k_world_NetO (l : List Int) (at_ now : Int) (hk : 0 ≤ at_) (hl : l.length ≤ 400) (hb : 0 ≤ now ∧ now ≤ 1099511627776) :
    ∃ r hp', (∃ (x : Net) (k' : Int), r = netO x 1 2 ∧ hp' = .cells (tape l k') :: netH x ∧ NetM x ∧ 0 ≤ k') ∧ Con Tryz.prog 8 [.pb 0 [], int now] [.cells (tape l at_)] r hp' := by
  refine spec_of_runR ttok mixed (T0 := 1074298995) (ts := [.cell 4 29]) 47 rfl rfl rfl rfl (by simp) rfl ?_
  conv => whnf
  repeat' (first | ((first | (refine CallN.ex (k_tape_Next l _ 4 (by omega) hl (by omega)) ?_; rintro _ _ ⟨ep, k0, rfl, rfl, a1, a2, a3⟩) | (refine CallN.ex (k_world_ClaimsU l _ 6 now (by omega) hl (by omega) hb) ?_; rintro _ _ ⟨L, k1, rfl, rfl, b1, b2, b3, b4⟩) | (with_reducible apply Frz.l)) <;> conv => whnf) | fail)
  refine LoopN.adoptF 3 1 (.agg [idV ep 0, .ov 1 4 0 0, .ov 20 2 0 L.length]) rfl (by simp) (.cons .rfl (.cons .nil .rfl)) ?_
  refine LoopN.turn [1, 6] [(0, .pb 0 []), (4, .pb 1 []), (5, .pb 2 [])] [.cells (tape l k1), .cells (.agg [idV 0 0, .v (.slice none 0 0), .v (.slice none 0 0)]), .cells (.agg [idV ep 0, .ov 1 3 0 0, .ov 20 4 0 L.length]), .arr none 1 [], .arr none 20 (lst clmV L)] ?_
  conv => whnf
  repeat' (first | ((first | (with_reducible apply Same.rfl) | (with_reducible apply Cut.l) | (with_reducible apply Frz.l)) <;> conv => whnf) | fail)
  refine loop_keep ttok mixed (T0 := 1074298995) [1] (ι := NetI)
    (fun p => [(0, .pb 0 []), (4, .pb 1 []), (5, .pb 2 []), (6, int p.k)]) (fun p => [.cells (tape l p.a), .cells (.agg [idV 0 0, .v (.slice none 0 0), .v (.slice none 0 0)]), .cells (.agg [idV ep 0, .ov 1 3 0 p.m.length, .ov 20 4 0 L.length]), .arr none 1 (lst u64 p.m), .arr none 20 (lst clmV L)]) (fun p => (6 - p.k).toNat) ⟨[], 1, k1, b2, by omega, .nil, by simp, by simp⟩ ?_
  conv => whnf
  repeat' (first | ((first | (with_reducible apply Same.rfl) | (apply Same.int; focus rfl) | (apply Same.rfl) | (with_reducible apply Frz.l)) <;> conv => whnf) | fail)
  rintro ⟨m, k, a, ha, hk, pw, lt, ln⟩
  dsimp only
  conv => whnf
  by_cases h5 : k ≤ 5
  · obtain ⟨s1, s2⟩ := NetI.snoc ⟨hk.1, h5⟩ pw lt
    repeat' (first | ((first | ((with_reducible apply Nm.mk); focus ((try simp only [lns]); exact rfl)) | ((with_reducible first | apply Wr.i64 | apply Wr.u64); focus omega) | ((with_reducible apply Need.mk); focus first | (simp only [lns]; omega) | (unfold roomOK; simp only [lns]; omega)) | (refine CallN.ex (k_tape_Bool l _ 2 (by omega) hl (by omega)) ?_; rintro _ _ ⟨b, k2, rfl, rfl, c1⟩) | ((with_reducible apply Bif.dec) <;> intro h <;> (try simp only [lns] at h) <;> (try (exfalso; omega))) | ((with_reducible apply Bif.mk) <;> intro h) | (with_reducible apply Alt.l) | (with_reducible apply Frz.l)) <;> conv => whnf) | fail)
    · (refine ⟨⟨m ++ [k], k + 1, k2, c1, by omega, s1, s2, by simp; omega⟩, ?_⟩; (try dsimp only); conv => whnf); repeat' (first | with_reducible apply True.intro | ((with_reducible apply Turn.r); (conv => whnf)) | ((apply Same.mk (snocU m k)); (conv => whnf)) | ((apply Same.mk (snocL m k)); (conv => whnf)) | ((first | ((with_reducible apply Need.mk); focus omega) | (with_reducible apply Same.rfl) | (apply Same.int; focus rfl) | (with_reducible apply Cut.l) | (with_reducible apply Frz.l)) <;> conv => whnf) | fail)
    · (refine ⟨⟨m, k + 1, k2, c1, by omega, pw, fun x hx => by have := lt x hx; omega, by omega⟩, ?_⟩; (try dsimp only); conv => whnf); repeat' (first | with_reducible apply True.intro | ((with_reducible apply Turn.r); (conv => whnf)) | ((first | ((with_reducible apply Need.mk); focus omega) | (with_reducible apply Same.rfl) | (apply Same.int; focus rfl) | (with_reducible apply Cut.l) | (with_reducible apply Frz.l)) <;> conv => whnf) | fail)
  · repeat' (first | ((first | ((with_reducible apply Nm.mk); focus ((try simp only [lns]); exact rfl)) | ((with_reducible apply Need.mk); focus first | omega | kernel_rfl) | ((with_reducible apply Elem.lst); focus omega) | (refine CallN.ex (k_tape_Next l _ _ (by omega) hl (by omega)) ?_; rintro _ _ ⟨w, k3, rfl, rfl, c1, c2, c3⟩) | (refine CallN.ex (k_world_EUI l _ (by omega) hl) ?_; rintro _ _ ⟨eu, k4, rfl, rfl, d1, d2, d3⟩) | ((with_reducible first | apply Bif.dec | apply Bif.beq) <;> intro h <;> (try simp only [lns] at h) <;> (try (exfalso; omega))) | (with_reducible apply Frz.l)) <;> conv => whnf) | fail)
    · apply Elem.mk (u64 eu) (by rw [show w.toNat = 0 by omega]; rfl)
      conv => whnf
      repeat' (first | ((first | ((with_reducible apply Need.mk); focus kernel_rfl) | (with_reducible apply Frz.l)) <;> conv => whnf) | fail)
      (refine ⟨_, _, ⟨⟨ep, eu, [eu], L⟩, k3, rfl, rfl, ⟨validN_iff.2 ⟨(show 0 ≤ ep ∧ ep ≤ 1073741824 by omega), ⟨(by simp), (by simp), (fun x hx => by rw [List.mem_singleton.1 hx]; omega), List.pairwise_singleton _ _⟩, List.mem_singleton.2 rfl, b3⟩, (show ep ≤ 3 by omega), (show 1 ≤ 5 by omega), b1, (fun x hx => by rw [List.mem_singleton.1 hx]; omega), b4⟩, c3⟩, ?_⟩; conv => whnf); repeat' (first | with_reducible apply True.intro | ((first | (with_reducible apply Same.rfl) | (apply Same.int; focus rfl) | (apply Same.rfl) | (with_reducible apply Cut.l) | (with_reducible apply Frz.l)) <;> conv => whnf) | fail)
    · have hlt : w.toNat < m.length := by omega
      (refine ⟨_, _, ⟨⟨ep, gt m w.toNat, m, L⟩, k3, rfl, rfl, ⟨validN_iff.2 ⟨(show 0 ≤ ep ∧ ep ≤ 1073741824 by omega), ⟨(show 1 ≤ m.length by omega), (show m.length ≤ 12 by omega), (fun x hx => (lt x hx).1), pw⟩, gt_mem hlt, b3⟩, (show ep ≤ 3 by omega), (show m.length ≤ 5 by omega), b1, (fun x hx => by have := lt x hx; omega), b4⟩, c3⟩, ?_⟩; conv => whnf); repeat' (first | with_reducible apply True.intro | ((first | (with_reducible apply Same.rfl) | (apply Same.int; focus rfl) | (with_reducible apply Cut.l) | (with_reducible apply Frz.l)) <;> conv => whnf) | fail)
theorem k_world_Net (l : List Int) (at_ now : Int) (hk : 0 ≤ at_) (hl : l.length ≤ 400) (hb : 0 ≤ now ∧ now ≤ 1099511627776) :
    ∃ r hp', (∃ (x : Net) (k' : Int), r = netF x ∧ hp' = [.cells (tape l k')] ∧ NetM x ∧ 0 ≤ k') ∧ Con Tryz.prog 8 [.pb 0 [], int now] [.cells (tape l at_)] r hp' := by
  obtain ⟨r, hp', ⟨x, k', rfl, rfl, hx, hk'⟩, hc⟩ := k_world_NetO l at_ now hk hl hb
  refine ⟨netF x, [.cells (tape l k')], ⟨x, k', rfl, rfl, hx, hk'⟩, hc.fz 1 (Nat.le_refl _) (.one (.aggC .same (.aggC (.whole (by omega) rfl) (.aggC (.whole (by omega) rfl) .aggN))) (fun l h => by cases h)) rfl ?_ rfl rfl⟩
  intro k ob h1 h2
  match k, h1, h2 with
  | 1, _, h2 => cases h2; exact ⟨_, _, _, rfl⟩
  | 2, _, h2 => cases h2; exact ⟨_, _, _, rfl⟩
end Go.Fw

/- Networks that are spoiled; small and known ones. -/
namespace Go.Fw
open Go.Proofs
set_option maxHeartbeats 4000000
set_option maxRecDepth 4000
theorem Con.sem {P : Program} {f : FuncId} {args : List SV} {hp : List OB} {r r' : SV} {hp' : List OB} (h : Con P f args hp r hp') (hr : ∀ cx w v, RelV cx w r v → RelV cx w r' v) : Con P f args hp r' hp' := by
  intro cx w vals hgl hmm hv
  exact (h cx w vals hgl hmm hv).mono fun e w' ⟨cx1, v, h1, h2, h3, h4⟩ => ⟨cx1, v, h1, hr _ _ _ h2, h3, h4⟩
/-- A slice of these elements: owned, shared, or nil. -/
inductive RawS (hp : List OB) (E : Nat) (rows : List SV) : SV → Prop where
  | ov {k n : Nat} {x : Option Nat} (h1 : 1 ≤ k) (h2 : hp[k]? = some (.arr x E rows)) (h3 : n = rows.length) : RawS hp E rows (.ov E k 0 n)
  | nil (h : rows = []) : RawS hp E rows (.v (.slice none 0 0))
  | fs {t : Tg} : RawS hp E rows (.fs t E rows)
theorem RawS.fz {hp : List OB} {E : Nat} {rows : List SV} {s : SV} (h : RawS hp E rows s) : ∃ s', FzR hp 1 s s' ∧ below 1 s' = true ∧ ∀ cx w vs, RelC cx w s' vs → RelC cx w (.fs .no E rows) vs := by
  cases h with
  | ov h1 h2 h3 => exact ⟨_, .fz h1 h2 (by omega) rfl, rfl, fun cx w vs h => by
      have h := h.fsno
      rw [List.drop_zero, h3, List.take_length] at h
      exact h⟩
  | nil h => exact ⟨_, .same, rfl, fun cx w vs hr => by cases hr; rw [h]; exact .fs0 Tg.ok_no⟩
  | fs => exact ⟨_, .same, rfl, fun cx w vs h => h.fsno⟩
/-- A spoiled network. -/
structure NetX (n : Net) : Prop where
  R : NetR n
  lm : n.mem.length ≤ 6
  lc : n.cl.length ≤ 7
theorem NetM.X {n : Net} (h : NetM n) : NetX n := ⟨h.R, by have := h.lm; omega, by have := h.lc; omega⟩
theorem snocP {m : List Int} {x : Int} (h : ∀ z ∈ m, 0 ≤ z) (hx : 0 ≤ x) : ∀ z ∈ m ++ [x], 0 ≤ z := fun z hz => by
  rcases List.mem_append.1 hz with g | g
  · exact h z g
  · rw [List.mem_singleton.1 g]; exact hx
theorem setP {m : List Int} (h : ∀ z ∈ m, 0 ≤ z) : ∀ z ∈ m.set 0 0, 0 ≤ z := fun z hz => by
  rcases List.mem_or_eq_of_mem_set hz with g | g
  · exact h z g
  · omega
theorem setU0 (m : List Int) : (lst u64 m).set 0 (SV.v (Value.int IntKind.u64 0)) = lst u64 (m.set 0 0) := by cases m <;> rfl
theorem snocC (c : List Clm) (x : Clm) : lst clmV c ++ [clmV x] = lst clmV (c ++ [x]) := by simp [lst]
def SpoR (l : List Int) (r : SV) (hp' : List OB) : Prop := ∃ (x : Net) (k' : Int) (rest : List OB) (s1 s2 : SV), r = .agg [idV x.ep x.rt, s1, s2] ∧ hp' = .cells (tape l k') :: rest ∧ RawS hp' 1 (lst u64 x.mem) s1 ∧ RawS hp' 20 (lst clmV x.cl) s2 ∧ (∀ ob ∈ rest, ∃ y E rows, ob = .arr y E rows) ∧ NetX x ∧ 0 ≤ k'
theorem k_spoiled0 (l : List Int) (at_ : Int) (n : Net) (hk : 0 ≤ at_) (hl : l.length ≤ 400) (hn : NetM n) :
    ∃ r hp', SpoR l r hp' ∧ Con Tryz.prog 15 [.pb 0 [], netF n] [.cells (tape l at_)] r hp' := by
  have h5 := hn.lm
  have h6 := hn.lc
  have h1 := (validN_iff.1 hn.v).2.1.1
  refine spec_of_runR ttok mixed (T0 := 70868079643) (ts := [.cell 4 29]) 46 rfl rfl rfl rfl (by simp) rfl ?_
  conv => whnf
  repeat' (first | ((first | (with_reducible apply Nm.snoc _ (rfl)) | ((with_reducible apply Nm.mk); focus ((try simp only [lns]); exact rfl)) | ((with_reducible apply Need.mk); focus first | omega | (simp only [lns]; omega) | kernel_rfl | (unfold roomOK; simp only [lns]; omega)) | ((with_reducible apply Elem.lst); focus omega) | (refine CallN.ex (k_tape_Next l _ 6 (by omega) hl (by omega)) ?_; rintro _ _ ⟨c, k0, rfl, rfl, a1, a2, a3⟩) | (apply CallN.mk (k_CloneU n.mem _ (by omega))) | (apply CallN.mk (k_Clone_Clm n.cl _ (by omega))) | ((with_reducible apply Bif.beq) <;> intro h <;> (try simp only [lns] at h)) | (with_reducible apply Alt.l) | (with_reducible apply Frz.l)) <;> conv => whnf) | fail)
  · (refine ⟨_, _, ⟨⟨-1, n.rt, n.mem, n.cl⟩, k0, [.arr none 1 (lst u64 n.mem)], .ov 1 1 0 n.mem.length, .fs .no 20 (lst clmV n.cl), rfl, rfl, .ov (by omega) rfl (by simp [lst]), .fs, (fun ob ho => by rw [List.mem_singleton.1 ho]; exact ⟨_, _, _, rfl⟩), ⟨⟨hn.R.p, hn.R.lm, hn.R.lc⟩, hn.X.lm, hn.X.lc⟩, a3⟩, ?_⟩; conv => whnf); repeat' (first | with_reducible apply True.intro | ((first | (with_reducible apply Same.rfl) | (with_reducible apply Cut.l) | (with_reducible apply Frz.l)) <;> conv => whnf) | fail)
  · (refine ⟨_, _, ⟨⟨n.ep, 77, n.mem, n.cl⟩, k0, [.arr none 1 (lst u64 n.mem)], .ov 1 1 0 n.mem.length, .fs .no 20 (lst clmV n.cl), rfl, rfl, .ov (by omega) rfl (by simp [lst]), .fs, (fun ob ho => by rw [List.mem_singleton.1 ho]; exact ⟨_, _, _, rfl⟩), ⟨⟨hn.R.p, hn.R.lm, hn.R.lc⟩, hn.X.lm, hn.X.lc⟩, a3⟩, ?_⟩; conv => whnf); repeat' (first | with_reducible apply True.intro | ((first | (with_reducible apply Same.rfl) | (with_reducible apply Cut.l) | (with_reducible apply Frz.l)) <;> conv => whnf) | fail)
  · (refine ⟨_, _, ⟨⟨n.ep, n.rt, n.mem ++ [gt n.mem 0], n.cl⟩, k0, [.arr none 1 (lst u64 (n.mem ++ [gt n.mem 0]))], .ov 1 1 0 (n.mem.length + 1), .fs .no 20 (lst clmV n.cl), rfl, rfl, .ov (by omega) rfl (by simp [lst]), .fs, (fun ob ho => by rw [List.mem_singleton.1 ho]; exact ⟨_, _, _, rfl⟩), ⟨⟨snocP hn.R.p (hn.R.p _ (gt_mem (by omega))), (show (n.mem ++ [gt n.mem 0]).length ≤ _ by rw [List.length_append]; show _ + 1 ≤ _; omega), hn.R.lc⟩, (show (n.mem ++ [gt n.mem 0]).length ≤ _ by rw [List.length_append]; show _ + 1 ≤ _; omega), hn.X.lc⟩, a3⟩, ?_⟩; conv => whnf); repeat' (first | with_reducible apply True.intro | ((first | (with_reducible apply Same.rfl) | (apply Same.int; focus rfl) | (with_reducible apply Cut.l) | (with_reducible apply Frz.l)) <;> conv => whnf) | fail)
  · (refine ⟨_, _, ⟨⟨n.ep, n.rt, n.mem.set 0 0, n.cl⟩, k0, [.arr none 1 ((lst u64 n.mem).set 0 (SV.v (Value.int IntKind.u64 0)))], .ov 1 1 0 n.mem.length, .fs .no 20 (lst clmV n.cl), rfl, rfl, .ov (x := none) (by omega) (by rw [setU0]; rfl) (by simp [lst]), .fs, (fun ob ho => by rw [List.mem_singleton.1 ho]; exact ⟨_, _, _, rfl⟩), ⟨⟨setP hn.R.p, (by simp; omega), hn.R.lc⟩, (by simp; omega), hn.X.lc⟩, a3⟩, ?_⟩; conv => whnf); repeat' (first | with_reducible apply True.intro | ((first | (with_reducible apply Same.rfl) | (with_reducible apply Cut.l) | (with_reducible apply Frz.l)) <;> conv => whnf) | fail)
  · (refine ⟨_, _, ⟨⟨n.ep, n.rt, n.mem, n.cl ++ [clm0]⟩, k0, [.arr none 1 (lst u64 n.mem), .arr none 20 (lst clmV n.cl ++ [clmV clm0])], .ov 1 1 0 n.mem.length, .ov 20 2 0 (n.cl.length + 1), rfl, rfl, .ov (by omega) rfl (by simp [lst]), .ov (x := none) (by omega) (by rw [snocC]; rfl) (by simp [lst]), (fun ob ho => by
      rcases List.mem_cons.1 ho with h | h
      · rw [h]; exact ⟨_, _, _, rfl⟩
      · rw [List.mem_singleton.1 h]; exact ⟨_, _, _, rfl⟩), ⟨⟨hn.R.p, hn.R.lm, (by simp; omega)⟩, hn.X.lm, (by simp; omega)⟩, a3⟩, ?_⟩; conv => whnf); repeat' (first | with_reducible apply True.intro | ((first | (with_reducible apply Same.rfl) | (apply Same.rfl) | (with_reducible apply Cut.l) | (with_reducible apply Frz.l)) <;> conv => whnf) | fail)
  · (refine ⟨_, _, ⟨⟨n.ep, n.rt, [], n.cl⟩, k0, [], .v (.slice none 0 0), .fs .no 20 (lst clmV n.cl), rfl, rfl, .nil rfl, .fs, (fun ob ho => by cases ho), ⟨⟨(by simp), (by simp), hn.R.lc⟩, (by simp), hn.X.lc⟩, a3⟩, ?_⟩; conv => whnf); repeat' (first | with_reducible apply True.intro | ((first | (with_reducible apply Same.rfl) | (with_reducible apply Frz.l)) <;> conv => whnf) | fail)
theorem k_spoiled (l : List Int) (at_ : Int) (n : Net) (hk : 0 ≤ at_) (hl : l.length ≤ 400) (hn : NetM n) :
    ∃ r hp', (∃ (x : Net) (k' : Int), r = netF x ∧ hp' = [.cells (tape l k')] ∧ NetX x ∧ 0 ≤ k') ∧ Con Tryz.prog 15 [.pb 0 [], netF n] [.cells (tape l at_)] r hp' := by
  obtain ⟨r, hp', ⟨x, k', rest, s1, s2, rfl, rfl, g1, g2, g3, g4, g5⟩, hc⟩ := k_spoiled0 l at_ n hk hl hn
  obtain ⟨u1, f1, b1, q1⟩ := g1.fz
  obtain ⟨u2, f2, b2, q2⟩ := g2.fz
  refine ⟨netF x, [.cells (tape l k')], ⟨x, k', rfl, rfl, g4, g5⟩, (hc.fz (r' := .agg [idV x.ep x.rt, u1, u2]) 1 (Nat.le_refl _) (.one (.aggC .same (.aggC f1 (.aggC f2 .aggN))) (fun l h => by cases h)) ?_ ?_ rfl rfl).sem ?_⟩
  · show belows 1 [idV x.ep x.rt, u1, u2] = true
    simp only [belows, b1, b2]
    rfl
  · intro k ob h1 h2
    rcases k with _ | k
    · omega
    · exact g3 ob (List.mem_of_getElem? (i := k) (by simpa using h2))
  · intro cx w v h
    obtain ⟨vs, e1, h⟩ := h
    refine ⟨vs, e1, ?_⟩
    cases h with
    | cons a1 a2 =>
      refine .cons a1 ?_
      cases a2 with
      | cons a3 a4 =>
        refine .cons (q1 _ _ _ a3) ?_
        cases a4 with
        | cons a5 a6 => exact .cons (q2 _ _ _ a5) a6
end Go.Fw

/- Small networks; what is known. -/
namespace Go.Fw
open Go.Proofs
set_option maxHeartbeats 4000000
set_option maxRecDepth 4000
theorem k_small37 (n : Net) (hm : n.mem.length ≤ 9223372036854775807) (hc : n.cl.length ≤ 9223372036854775807) : Con Tryz.prog 4 [netF n] [] (bool (decide (n.mem.length ≤ 20 ∧ n.cl.length ≤ 70))) [] := by
  refine spec_of_run ttok mixed (T0 := 7) (ts := [.tmp 2]) 13 rfl rfl rfl rfl (by simp) rfl ?_
  conv => whnf
  repeat' (first | ((first | ((with_reducible apply Nm.mk); focus ((try simp only [lns]); exact rfl)) | (with_reducible first | apply Bif.T | apply Bif.F) | ((with_reducible apply Bif.dec) <;> intro h <;> (try simp only [lns] at h)) | (with_reducible apply Frz.l)) <;> conv => whnf) | fail)
  all_goals (apply Same.bool (by rw [Bool.eq_iff_iff]; simp only [decide_eq_true_eq, Bool.false_eq_true, false_iff, true_iff, Bool.and_eq_true, Bool.or_eq_true, Bool.not_eq_true', decide_eq_false_iff_not, ne_eq]; omega); (conv => whnf); repeat' (first | with_reducible apply True.intro | ((with_reducible apply Frz.l) <;> conv => whnf) | fail))
theorem cl_lst {α : Type} {f : α → SV} (g : ∀ a, cl (f a) = true) {x : Option Nat} {E : Nat} {l : List α} : cleanOB (.arr x E (lst f l)) := fun s hs => by
  obtain ⟨a, _, rfl⟩ := List.mem_map.1 hs
  exact g a
theorem clean_join (x : Net) (L : List Clm) (k : Nat) (e : Int) : CleanP (.tup [netO x 0 1, .ov 20 2 0 k, int e]) (netH x ++ [.arr none 20 (lst clmV L)]) :=
  ⟨rfl, fun ob ho => by
    simp only [netH, List.cons_append, List.nil_append, List.mem_cons, List.not_mem_nil, or_false] at ho
    rcases ho with rfl | rfl | rfl
    · exact cl_lst fun _ => rfl
    · exact cl_lst fun _ => rfl
    · exact cl_lst fun _ => rfl⟩
theorem kn_a : foundM 5 3 20 = (⟨3, 20, [20], []⟩, 0) := by decide
theorem kn_b : foundM 5 3 10 = (⟨3, 10, [10], []⟩, 0) := by decide
theorem merge0 {now : Int} (h : isTm now) : mergeM [] [] now = ([], [], 0) := by
  obtain ⟨R, L, h1, e⟩ := mergeM_ok (a := []) (b := []) (now := now) (by decide) (by decide) h (by simp)
  have l := h1.len
  have eR : R = [] := List.eq_nil_of_length_eq_zero (by simpa [cur] using l.1)
  have eL : L = [] := List.eq_nil_of_length_eq_zero (by simpa [cur] using l.2)
  rw [e, eR, eL]
theorem kn_c : joinM ⟨3, 20, [20], []⟩ ⟨3, 10, [10], []⟩ 6 = (⟨3, 10, [10, 20], []⟩, [], 0) := by
  rw [joinM, if_pos (by decide), if_pos (by decide)]
  dsimp only
  rw [merge0 (by decide), if_neg (by decide), if_pos (by decide)]
  rfl
theorem kn_d : leaveM ⟨3, 10, [10, 20], []⟩ [20, 30] = (⟨4, 20, [20], []⟩, 0) := by decide
theorem k_known37 : Con Tryz.prog 5 [] [] (bool true) [] := by
  have ca := k_xFound 5 3 20
  have cb := k_xFound 5 3 10
  have cc := fun t1 t2 t3 t4 => k_xJoinT ⟨3, 20, [20], []⟩ ⟨3, 10, [10], []⟩ t1 t2 t3 t4 6 ⟨by decide, by decide, by decide⟩ ⟨by decide, by decide, by decide⟩
  have cd := fun t1 t2 t3 => k_xLeaveT ⟨3, 10, [10, 20], []⟩ [20, 30] t1 t2 t3 ⟨by decide, by decide, by decide⟩ (by decide)
  have ce := fun t1 t2 => k_EqualU [10, 20] t1 t2 (by decide)
  rw [kn_a] at ca
  rw [kn_b] at cb
  rw [kn_c] at cc
  rw [kn_d] at cd
  refine spec_of_run ttok mixed (T0 := 959) (ts := [.tmp 0]) 63 rfl rfl rfl rfl (by simp) rfl ?_
  conv => whnf
  repeat' (first | with_reducible apply True.intro | ((with_reducible apply Need.mk); (focus (exact clean_join _ _ _ _)); (conv => whnf)) | ((first | ((with_reducible apply Nm.mk); focus ((try simp only [lns]); exact rfl)) | ((with_reducible apply Need.mk); focus first | (simp only [lns]; omega) | exact CleanP.nil rfl | exact CleanP.lst2 rfl (fun _ => rfl) (fun _ => rfl)) | (apply CallN.mk (ca)) | (apply CallN.mk (cb)) | (apply CallN.mk (cc _ _ _ _)) | (apply CallN.mk (cd _ _ _)) | (apply CallN.mk (ce _ _)) | (with_reducible apply Bif.T) | ((with_reducible apply Bif.beq) <;> intro h <;> (try simp only [lns] at h) <;> (try (exfalso; omega))) | (with_reducible apply Bif.and) | (apply Same.rfl) | (with_reducible apply GiveN.lend) | (with_reducible apply Frz.l)) <;> conv => whnf) | fail)
end Go.Fw

/- What comes in: numbers, claims, networks. -/
namespace Go.Fw
set_option maxRecDepth 4000
open Go.Proofs
theorem shp_int {t d : Nat} {s : SV} (ht : tt t = .int .i64) (h : Shp Tryz.prog tt (d + 1) t s) : ∃ n, s = int n ∧ -9223372036854775808 ≤ n ∧ n ≤ 9223372036854775807 := by
  simp only [Shp, ht] at h
  obtain ⟨n, rfl, hn⟩ := h
  exact ⟨n, rfl, bounds_i64 hn⟩
theorem shp_u64 {t d : Nat} {s : SV} (ht : tt t = .int .u64) (h : Shp Tryz.prog tt (d + 1) t s) : ∃ n, s = .v (.int .u64 n) ∧ 0 ≤ n := by
  simp only [Shp, ht] at h
  obtain ⟨n, rfl, hn⟩ := h
  refine ⟨n, rfl, ?_⟩
  simp [Lit.wf, IntKind.min, IntKind.max, IntKind.signed, IntKind.bits] at hn
  omega
theorem shp_ints {d : Nat} {s : SV} (h : Shp Tryz.prog tt (d + 2) 30 s) : ∃ l, s = .fs .no 1 (ints l) ∧ l.length ≤ maxLen := by
  obtain ⟨rows, rfl, hl, h⟩ := h
  obtain ⟨l, rfl, _⟩ := rows_of int (fun _ => True) fun r hr => let ⟨n, h1, _⟩ := shp_int (d := d) rfl (h 3 Tryz.underlying30 r hr); ⟨n, h1, trivial⟩
  exact ⟨l, rfl, by simpa using hl⟩
theorem shp_euis {d : Nat} {s : SV} (h : Shp Tryz.prog tt (d + 2) 26 s) : ∃ l, s = .fs .no 1 (lst u64 l) ∧ (∀ x ∈ l, 0 ≤ x) ∧ l.length ≤ 9223372036854775807 := by
  obtain ⟨rows, rfl, hl, h⟩ := h
  obtain ⟨l, rfl, hs⟩ := rows_of u64 (fun x => 0 ≤ x) fun r hr => let ⟨n, h1, h2⟩ := shp_u64 (d := d) rfl (h 23 Tryz.underlying26 r hr); ⟨n, h1, h2⟩
  exact ⟨l, rfl, hs, Nat.le_trans (by simpa using hl) (by decide)⟩
theorem shp_ip {d : Nat} {s : SV} (h : Shp Tryz.prog tt (d + 1) 32 s) : ∃ a, s = ipV a := by
  obtain ⟨l, rfl, h1, h2⟩ := h
  exact ⟨⟨l, h1, h2⟩, rfl⟩
theorem shp_clm {d : Nat} {s : SV} (h : Shp Tryz.prog tt (d + 2) 61 s) : ∃ c, s = clmV c := by
  obtain ⟨cs, rfl, hl, h⟩ := h
  match cs, hl with
  | [a, b, c, e, f], _ =>
    obtain ⟨ip, rfl⟩ := shp_ip (d := d) (h 0 _ _ rfl rfl)
    obtain ⟨eu, rfl, _⟩ := shp_u64 (d := d) rfl (h 1 _ _ rfl rfl)
    obtain ⟨sq, rfl, _⟩ := shp_int (d := d) rfl (h 2 _ _ rfl rfl)
    obtain ⟨si, rfl, _⟩ := shp_int (d := d) rfl (h 3 _ _ rfl rfl)
    obtain ⟨up, rfl, _⟩ := shp_int (d := d) rfl (h 4 _ _ rfl rfl)
    exact ⟨⟨ip, eu, sq, si, up⟩, rfl⟩
theorem shp_clms {d : Nat} {s : SV} (h : Shp Tryz.prog tt (d + 3) 27 s) : ∃ l, s = .fs .no 20 (lst clmV l) ∧ l.length ≤ 9223372036854775807 := by
  obtain ⟨rows, rfl, hl, h⟩ := h
  obtain ⟨l, rfl, _⟩ := rows_of clmV (fun _ => True) fun r hr => let ⟨n, h1⟩ := shp_clm (d := d) (h 61 Tryz.underlying27 r hr); ⟨n, h1, trivial⟩
  exact ⟨l, rfl, Nat.le_trans (by simpa using hl) (by decide)⟩
theorem shp_idn {d : Nat} {s : SV} (h : Shp Tryz.prog tt (d + 2) 25 s) : ∃ e r, s = idV e r := by
  obtain ⟨cs, rfl, hl, h⟩ := h
  match cs, hl with
  | [a, b], _ =>
    obtain ⟨n1, rfl, _⟩ := shp_int (d := d) rfl (h 0 _ _ rfl rfl)
    obtain ⟨n2, rfl, _⟩ := shp_u64 (d := d) rfl (h 1 _ _ rfl rfl)
    exact ⟨n1, n2, rfl⟩
theorem shp_net {d : Nat} {s : SV} (h : Shp Tryz.prog tt (d + 4) 29 s) : ∃ n, s = netF n ∧ (∀ x ∈ n.mem, 0 ≤ x) ∧ n.mem.length ≤ 9223372036854775807 ∧ n.cl.length ≤ 9223372036854775807 := by
  obtain ⟨cs, rfl, hl, h⟩ := h
  match cs, hl with
  | [a, b, c], _ =>
    obtain ⟨e, r, rfl⟩ := shp_idn (d := d + 1) (h 0 _ _ rfl rfl)
    obtain ⟨m, rfl, m1, m2⟩ := shp_euis (d := d + 1) (h 1 _ _ rfl rfl)
    obtain ⟨l, rfl, l1⟩ := shp_clms (d := d) (h 2 _ _ rfl rfl)
    exact ⟨⟨e, r, m, l⟩, rfl, m1, m2, l1⟩
end Go.Fw
