/- Networks that are spoiled; small and known ones. -/
import Derived.Test.YtpmiaggdjgfjgaaParG
namespace Go.Fw
open Go.Proofs
set_option maxHeartbeats 4000000
set_option maxRecDepth 4000
theorem Con.sem {P : Program} {f : FuncId} {args : List SV} {hp : List OB} {r r' : SV} {hp' : List OB} (h : Con P f args hp r hp') (hr : ∀ cx w v, RelV cx w r v → RelV cx w r' v) : Con P f args hp r' hp' := by
  intro cx w vals hgl hmm hv
  exact (h cx w vals hgl hmm hv).mono fun e w' ⟨cx1, v, h1, h2, h3, h4⟩ => ⟨cx1, v, h1, hr _ _ _ h2, h3, h4⟩
/-- A slice of these elements: owned, shared, or nil. -/
inductive RawS (hp : List OB) (E : Nat) (rows : List SV) : SV → Prop where
  | ov {k n : Nat} {x : Option Nat} (h1 : 1 ≤ k) (h2 : hp[k]? = some (.arr x E rows)) (h3 : n = rows.length) : RawS hp E rows (.ov E k 0 n)
  | nil (h : rows = []) : RawS hp E rows (.v (.slice none 0 0))
  | fs {t : Tg} : RawS hp E rows (.fs t E rows)
theorem RawS.fz {hp : List OB} {E : Nat} {rows : List SV} {s : SV} (h : RawS hp E rows s) : ∃ s', FzR hp 1 s s' ∧ below 1 s' = true ∧ ∀ cx w vs, RelC cx w s' vs → RelC cx w (.fs .no E rows) vs := by
  cases h with
  | ov h1 h2 h3 => exact ⟨_, .fz h1 h2 (by omega) rfl, rfl, fun cx w vs h => by
      have h := h.fsno
      rw [List.drop_zero, h3, List.take_length] at h
      exact h⟩
  | nil h => exact ⟨_, .same, rfl, fun cx w vs hr => by cases hr; rw [h]; exact .fs0 Tg.ok_no⟩
  | fs => exact ⟨_, .same, rfl, fun cx w vs h => h.fsno⟩
/-- A spoiled network. -/
structure NetX (n : Net) : Prop where
  R : NetR n
  lm : n.mem.length ≤ 6
  lc : n.cl.length ≤ 7
theorem NetM.X {n : Net} (h : NetM n) : NetX n := ⟨h.R, by have := h.lm; omega, by have := h.lc; omega⟩
theorem snocP {m : List Int} {x : Int} (h : ∀ z ∈ m, 0 ≤ z) (hx : 0 ≤ x) : ∀ z ∈ m ++ [x], 0 ≤ z := fun z hz => by
  rcases List.mem_append.1 hz with g | g
  · exact h z g
  · rw [List.mem_singleton.1 g]; exact hx
theorem setP {m : List Int} (h : ∀ z ∈ m, 0 ≤ z) : ∀ z ∈ m.set 0 0, 0 ≤ z := fun z hz => by
  rcases List.mem_or_eq_of_mem_set hz with g | g
  · exact h z g
  · omega
theorem setU0 (m : List Int) : (lst u64 m).set 0 (SV.v (Value.int IntKind.u64 0)) = lst u64 (m.set 0 0) := by cases m <;> rfl
theorem snocC (c : List Clm) (x : Clm) : lst clmV c ++ [clmV x] = lst clmV (c ++ [x]) := by simp [lst]
def SpoR (l : List Int) (r : SV) (hp' : List OB) : Prop := ∃ (x : Net) (k' : Int) (rest : List OB) (s1 s2 : SV), r = .agg [idV x.ep x.rt, s1, s2] ∧ hp' = .cells (tape l k') :: rest ∧ RawS hp' 1 (lst u64 x.mem) s1 ∧ RawS hp' 20 (lst clmV x.cl) s2 ∧ (∀ ob ∈ rest, ∃ y E rows, ob = .arr y E rows) ∧ NetX x ∧ 0 ≤ k'
theorem k_spoiled0 (l : List Int) (at_ : Int) (n : Net) (hk : 0 ≤ at_) (hl : l.length ≤ 400) (hn : NetM n) :
    ∃ r hp', SpoR l r hp' ∧ Con Try.prog 14 [.pb 0 [], netF n] [.cells (tape l at_)] r hp' := by
  have h5 := hn.lm
  have h6 := hn.lc
  have h1 := (validN_iff.1 hn.v).2.1.1
  refine spec_of_runR ttok mixed (T0 := 70868079643) (ts := [.cell 4 29]) 46 rfl rfl rfl rfl (by simp) rfl ?_
  conv => whnf
  repeat' (first | ((first | (with_reducible apply Nm.snoc _ (rfl)) | ((with_reducible apply Nm.mk); focus ((try simp only [lns]); exact rfl)) | ((with_reducible apply Need.mk); focus first | omega | (simp only [lns]; omega) | kernel_rfl | (unfold roomOK; simp only [lns]; omega)) | ((with_reducible apply Elem.lst); focus omega) | (refine CallN.ex (k_tape_Next l _ 6 (by omega) hl (by omega)) ?_; rintro _ _ ⟨c, k0, rfl, rfl, a1, a2, a3⟩) | (apply CallN.mk (k_CloneU n.mem _ (by omega))) | (apply CallN.mk (k_Clone_Clm n.cl _ (by omega))) | ((with_reducible apply Bif.beq) <;> intro h <;> (try simp only [lns] at h)) | (with_reducible apply Alt.l)) <;> conv => whnf) | fail)
  · (refine ⟨_, _, ⟨⟨-1, n.rt, n.mem, n.cl⟩, k0, [.arr none 1 (lst u64 n.mem)], .ov 1 1 0 n.mem.length, .fs .no 20 (lst clmV n.cl), rfl, rfl, .ov (by omega) rfl (by simp [lst]), .fs, (fun ob ho => by rw [List.mem_singleton.1 ho]; exact ⟨_, _, _, rfl⟩), ⟨⟨hn.R.p, hn.R.lm, hn.R.lc⟩, hn.X.lm, hn.X.lc⟩, a3⟩, ?_⟩; conv => whnf); repeat' (first | with_reducible apply True.intro | ((first | (with_reducible apply Same.rfl) | (with_reducible apply Cut.l)) <;> conv => whnf) | fail)
  · (refine ⟨_, _, ⟨⟨n.ep, 77, n.mem, n.cl⟩, k0, [.arr none 1 (lst u64 n.mem)], .ov 1 1 0 n.mem.length, .fs .no 20 (lst clmV n.cl), rfl, rfl, .ov (by omega) rfl (by simp [lst]), .fs, (fun ob ho => by rw [List.mem_singleton.1 ho]; exact ⟨_, _, _, rfl⟩), ⟨⟨hn.R.p, hn.R.lm, hn.R.lc⟩, hn.X.lm, hn.X.lc⟩, a3⟩, ?_⟩; conv => whnf); repeat' (first | with_reducible apply True.intro | ((first | (with_reducible apply Same.rfl) | (with_reducible apply Cut.l)) <;> conv => whnf) | fail)
  · (refine ⟨_, _, ⟨⟨n.ep, n.rt, n.mem ++ [gt n.mem 0], n.cl⟩, k0, [.arr none 1 (lst u64 (n.mem ++ [gt n.mem 0]))], .ov 1 1 0 (n.mem.length + 1), .fs .no 20 (lst clmV n.cl), rfl, rfl, .ov (by omega) rfl (by simp [lst]), .fs, (fun ob ho => by rw [List.mem_singleton.1 ho]; exact ⟨_, _, _, rfl⟩), ⟨⟨snocP hn.R.p (hn.R.p _ (gt_mem (by omega))), (show (n.mem ++ [gt n.mem 0]).length ≤ _ by rw [List.length_append]; show _ + 1 ≤ _; omega), hn.R.lc⟩, (show (n.mem ++ [gt n.mem 0]).length ≤ _ by rw [List.length_append]; show _ + 1 ≤ _; omega), hn.X.lc⟩, a3⟩, ?_⟩; conv => whnf); repeat' (first | with_reducible apply True.intro | ((first | (with_reducible apply Same.rfl) | (apply Same.int; focus rfl) | (with_reducible apply Cut.l)) <;> conv => whnf) | fail)
  · (refine ⟨_, _, ⟨⟨n.ep, n.rt, n.mem.set 0 0, n.cl⟩, k0, [.arr none 1 ((lst u64 n.mem).set 0 (SV.v (Value.int IntKind.u64 0)))], .ov 1 1 0 n.mem.length, .fs .no 20 (lst clmV n.cl), rfl, rfl, .ov (x := none) (by omega) (by rw [setU0]; rfl) (by simp [lst]), .fs, (fun ob ho => by rw [List.mem_singleton.1 ho]; exact ⟨_, _, _, rfl⟩), ⟨⟨setP hn.R.p, (by simp; omega), hn.R.lc⟩, (by simp; omega), hn.X.lc⟩, a3⟩, ?_⟩; conv => whnf); repeat' (first | with_reducible apply True.intro | ((first | (with_reducible apply Same.rfl) | (with_reducible apply Cut.l)) <;> conv => whnf) | fail)
  · (refine ⟨_, _, ⟨⟨n.ep, n.rt, n.mem, n.cl ++ [clm0]⟩, k0, [.arr none 1 (lst u64 n.mem), .arr none 20 (lst clmV n.cl ++ [clmV clm0])], .ov 1 1 0 n.mem.length, .ov 20 2 0 (n.cl.length + 1), rfl, rfl, .ov (by omega) rfl (by simp [lst]), .ov (x := none) (by omega) (by rw [snocC]; rfl) (by simp [lst]), (fun ob ho => by
      rcases List.mem_cons.1 ho with h | h
      · rw [h]; exact ⟨_, _, _, rfl⟩
      · rw [List.mem_singleton.1 h]; exact ⟨_, _, _, rfl⟩), ⟨⟨hn.R.p, hn.R.lm, (by simp; omega)⟩, hn.X.lm, (by simp; omega)⟩, a3⟩, ?_⟩; conv => whnf); repeat' (first | with_reducible apply True.intro | ((first | (with_reducible apply Same.rfl) | (apply Same.rfl) | (with_reducible apply Cut.l)) <;> conv => whnf) | fail)
  · (refine ⟨_, _, ⟨⟨n.ep, n.rt, [], n.cl⟩, k0, [], .v (.slice none 0 0), .fs .no 20 (lst clmV n.cl), rfl, rfl, .nil rfl, .fs, (fun ob ho => by cases ho), ⟨⟨(by simp), (by simp), hn.R.lc⟩, (by simp), hn.X.lc⟩, a3⟩, ?_⟩; conv => whnf); repeat' (first | with_reducible apply True.intro | ((with_reducible apply Same.rfl) <;> conv => whnf) | fail)
theorem k_spoiled (l : List Int) (at_ : Int) (n : Net) (hk : 0 ≤ at_) (hl : l.length ≤ 400) (hn : NetM n) :
    ∃ r hp', (∃ (x : Net) (k' : Int), r = netF x ∧ hp' = [.cells (tape l k')] ∧ NetX x ∧ 0 ≤ k') ∧ Con Try.prog 14 [.pb 0 [], netF n] [.cells (tape l at_)] r hp' := by
  obtain ⟨r, hp', ⟨x, k', rest, s1, s2, rfl, rfl, g1, g2, g3, g4, g5⟩, hc⟩ := k_spoiled0 l at_ n hk hl hn
  obtain ⟨u1, f1, b1, q1⟩ := g1.fz
  obtain ⟨u2, f2, b2, q2⟩ := g2.fz
  refine ⟨netF x, [.cells (tape l k')], ⟨x, k', rfl, rfl, g4, g5⟩, (hc.fz (r' := .agg [idV x.ep x.rt, u1, u2]) 1 (Nat.le_refl _) (.one (.aggC .same (.aggC f1 (.aggC f2 .aggN))) (fun l h => by cases h)) ?_ ?_ rfl rfl).sem ?_⟩
  · show belows 1 [idV x.ep x.rt, u1, u2] = true
    simp only [belows, b1, b2]
    rfl
  · intro k ob h1 h2
    rcases k with _ | k
    · omega
    · exact g3 ob (List.mem_of_getElem? (i := k) (by simpa using h2))
  · intro cx w v h
    obtain ⟨vs, e1, h⟩ := h
    refine ⟨vs, e1, ?_⟩
    cases h with
    | cons a1 a2 =>
      refine .cons a1 ?_
      cases a2 with
      | cons a3 a4 =>
        refine .cons (q1 _ _ _ a3) ?_
        cases a4 with
        | cons a5 a6 => exact .cons (q2 _ _ _ a5) a6
end Go.Fw
