/- ReassemblyApart: plain law and walk. -/
import Derived.Test.YteebplkhnhpiiaaRasV
namespace Go.Fw
open Go.Proofs
set_option maxHeartbeats 8000000
set_option maxRecDepth 4000
theorem validL_siz {l : List Buf} (h : validL l = true) : sizL l := by
  have hv := validL_iff.1 h
  refine ⟨by omega, fun b hb => ?_⟩
  obtain ⟨k, hk, rfl⟩ := List.mem_iff_getElem.1 hb
  have h1 := (hv.2 k hk).1
  rw [gt_eq hk] at h1
  obtain ⟨h2, h3⟩ := validB_parts h1
  exact ⟨by omega, fun f hf => by have := (h3 f hf).2; omega⟩
namespace Dat
/-- What is kept when i parts were seen. -/
def pl (D : Dat) (i : Nat) : List Buf := if 0 < i ∧ i < D.f.length then [D.buf (pre D.f.length i) 15] else []
/-- Of another sender, or with another tag. -/
def Oth (D E : Dat) : Prop := ¬ (D.src = E.src ∧ D.tag = E.tag)
variable {D E : Dat}
theorem tm15 : isTm 15 := by decide
theorem pl_cases (D : Dat) (i : Nat) : D.pl i = [] ∨ ∃ s, D.St s 15 ∧ D.pl i = [D.buf s 15] := by
  unfold pl
  split
  · rename_i h; exact .inr ⟨_, D.St_pre ⟨h.1, h.2⟩ tm15, rfl⟩
  · exact .inl rfl
theorem Oth.keyF (h : D.Oth E) {k : Nat} (hk : k < D.f.length) (s : List Bool) (u : Int) : Fw.keyF D.src D.dst (gt D.f k) (E.buf s u) = false := by
  obtain ⟨h1, h2⟩ := D.fields hk
  rw [Bool.eq_false_iff]
  intro hc
  have hc : E.src = D.src ∧ E.dst = D.dst ∧ E.tag = (gt D.f k).tag ∧ (E.b.length : Int) = (gt D.f k).size := of_decide_eq_true hc
  exact h ⟨hc.1.symm, by rw [hc.2.2.1, h2]⟩
theorem Oth.keyB (h : D.Oth E) (s s' : List Bool) (u u' : Int) : keyB (D.buf s u) (E.buf s' u') = false := by
  rw [Bool.eq_false_iff]
  intro hc
  have hc := keyB_iff.1 hc
  exact h ⟨hc.1, hc.2.2.1⟩
theorem Oth.symm (h : D.Oth E) : E.Oth D := fun ⟨h1, h2⟩ => h ⟨h1.symm, h2.symm⟩
theorem pl_valid (h : D.Oth E) (i j : Nat) {L : List Buf} (hL : L = D.pl i ++ E.pl j ∨ L = E.pl j ++ D.pl i) : validL L = true := by
  rcases D.pl_cases i with e1 | ⟨s, h1, e1⟩ <;> rcases E.pl_cases j with e2 | ⟨s', h2, e2⟩ <;> rw [e1, e2] at hL <;> rcases hL with rfl | rfl
  · exact validL_nil
  · exact validL_nil
  · exact validL_one (E.valid h2)
  · exact validL_one (E.valid h2)
  · exact validL_one (D.valid h1)
  · exact validL_one (D.valid h1)
  · exact validL_two (D.valid h1) (E.valid h2) (h.keyB _ _ _ _)
  · exact validL_two (E.valid h2) (D.valid h1) (h.symm.keyB _ _ _ _)
theorem pl_late (D : Dat) (i : Nat) : ∀ x ∈ D.pl i, x.upto = 15 := fun x hx => by
  rcases D.pl_cases i with e | ⟨s, _, e⟩ <;> rw [e] at hx
  · cases hx
  · rw [List.mem_singleton.1 hx]; rfl
theorem apart_step (h : D.Oth E) {i j : Nat} (hi : i < D.f.length) {L : List Buf} (hL : L = D.pl i ++ E.pl j ∨ L = E.pl j ++ D.pl i) :
    ∃ L', addM L D.src D.dst (gt D.f i) 3 = (L', if i + 1 = D.f.length then D.b else [], 0) ∧ (L' = D.pl (i + 1) ++ E.pl j ∨ L' = E.pl j ++ D.pl (i + 1)) := by
  have hv := pl_valid h i j hL
  have hx : ∀ x ∈ L, x.upto > 3 := fun x hx => by
    have : x ∈ D.pl i ∨ x ∈ E.pl j := by rcases hL with rfl | rfl <;> rcases List.mem_append.1 hx with h | h <;> simp [h]
    rcases this with h1 | h1
    · rw [D.pl_late i x h1]; decide
    · rw [E.pl_late j x h1]; decide
  have hn : isTm 3 := by decide
  have hset : (pre D.f.length i).set i true = pre D.f.length (i + 1) := pre_set
  by_cases h0 : i = 0
  · subst h0
    have e0 : D.pl 0 = [] := by unfold pl; rw [if_neg (by omega)]
    rw [e0] at hL
    have hL : L = E.pl j := by rcases hL with rfl | rfl <;> simp
    have hkey : ∀ x ∈ L, Fw.keyF D.src D.dst (gt D.f 0) x = false := fun x hx => by
      rw [hL] at hx
      rcases E.pl_cases j with e | ⟨s, _, e⟩ <;> rw [e] at hx
      · cases hx
      · rw [List.mem_singleton.1 hx]; exact h.keyF hi _ _
    have hlen : L.length < 4 := by
      rw [hL]
      rcases E.pl_cases j with e | ⟨s, _, e⟩ <;> rw [e] <;> simp
    rw [D.add_new hv hx hn hkey hlen hi, D.unit_pre]
    by_cases h1 : 0 + 1 = D.f.length
    · rw [if_pos (pre_all (by omega)), if_pos h1]
      refine ⟨_, rfl, .inl ?_⟩
      have e1 : D.pl (0 + 1) = [] := by unfold pl; rw [if_neg (by omega)]
      rw [hL, e1]; simp
    · rw [if_neg (by rw [pre_not (by omega)]; simp), if_neg h1]
      refine ⟨_, rfl, .inr ?_⟩
      have e1 : D.pl (0 + 1) = [D.buf (pre D.f.length (0 + 1)) 15] := by unfold pl; rw [if_pos (by omega)]
      rw [hL, e1]; rfl
  · have e1 : D.pl i = [D.buf (pre D.f.length i) 15] := by unfold pl; rw [if_pos (by omega)]
    have e2 : i + 1 < D.f.length → D.pl (i + 1) = [D.buf (pre D.f.length (i + 1)) 15] := fun h => by unfold pl; rw [if_pos (by omega)]
    have e3 : ¬ i + 1 < D.f.length → D.pl (i + 1) = [] := fun h => by unfold pl; rw [if_neg (by omega)]
    rw [e1] at hL
    rcases hL with hL | hL
    · rw [D.add_hit (i := 0) (s := pre D.f.length i) (u := 15) hv hx hn (by rw [hL]; simp) (by rw [hL]; rfl) (pre_len _ _) hi, hset]
      by_cases h1 : i + 1 = D.f.length
      · rw [if_pos (pre_all (by omega)), if_pos h1]
        refine ⟨_, rfl, .inl ?_⟩
        rw [hL, e3 (by omega)]; rfl
      · rw [if_neg (by rw [pre_not (by omega)]; simp), if_neg h1]
        refine ⟨_, rfl, .inl ?_⟩
        rw [hL, e2 (by omega)]; rfl
    · rw [D.add_hit (i := (E.pl j).length) (s := pre D.f.length i) (u := 15) hv hx hn (by rw [hL]; simp) (by rw [hL]; exact gt_snoc) (pre_len _ _) hi, hset]
      by_cases h1 : i + 1 = D.f.length
      · rw [if_pos (pre_all (by omega)), if_pos h1]
        refine ⟨_, rfl, .inr ?_⟩
        rw [hL, e3 (by omega), List.eraseIdx_append_of_length_le (Nat.le_refl _)]; simp
      · rw [if_neg (by rw [pre_not (by omega)]; simp), if_neg h1]
        refine ⟨_, rfl, .inr ?_⟩
        rw [hL, e2 (by omega), List.set_append_right _ _ (Nat.le_refl _)]; simp
end Dat
structure ApI (D E : Dat) where
  i : Nat
  j : Nat
  s : Nat
  L : List Buf
  hi : i ≤ D.f.length
  hj : j ≤ E.f.length
  hs : s = i + j
  hL : L = D.pl i ++ E.pl j ∨ L = E.pl j ++ D.pl i
theorem k_ReassemblyApart (t : List Int) (n m : Int) (T : List Bool) (other : Bool) : Con Try.prog 6 [.fs .no 1 (ints t), int n, int m, .fs .no 1 (lst bool T), bool other] [] (bool true) [] := by
  have ht : (t.take 400).length ≤ 400 := by simp; omega
  generalize hT : t.take 400 = l at ht
  have hN := k_made_New t
  rw [hT] at hN
  have cn := k_made_Mod n 50 (by omega)
  have hn := modV_range (v := n) (n := 50) (by omega)
  have cm := k_made_Mod m 50 (by omega)
  have hm := modV_range (v := m) (n := 50) (by omega)
  generalize modV n 50 = n1 at *
  generalize modV m 50 = m1 at *
  have cd1 := k_device 1 (by omega)
  have cd2 := k_device 2 (by omega)
  have cd9 := k_device 9 (by omega)
  have cK := k_known
  obtain ⟨q1, hq1⟩ : ∃ q : Nat, 9 + n1 = q := ⟨(9 + n1).toNat, by omega⟩
  obtain ⟨q2, hq2⟩ : ∃ q : Nat, 9 + m1 = q := ⟨(9 + m1).toNat, by omega⟩
  refine spec_of_run ttok mixed (T0 := 2787593149816327893900890639728869445205023) (ts := [.tmp 10]) 148 rfl rfl rfl rfl (by simp) rfl ?_
  conv => whnf
  repeat' (first | ((first | ((with_reducible apply Wr.i64); focus omega) | (apply CallN.mk (hN)) | (apply CallN.mk (cn)) | (with_reducible apply Frz.l)) <;> conv => whnf) | fail)
  rw [hq1]
  repeat' (first | ((first | ((with_reducible apply Wr.i64); focus omega) | (apply CallN.mk (cm)) | (refine CallN.ex (k_Fill l _ q1 (by omega) ht (by omega)) ?_; rintro _ _ ⟨a, k1, rfl, rfl, ha, hk1⟩) | (with_reducible apply Frz.l)) <;> conv => whnf) | fail)
  rw [hq2]
  repeat' (first | ((first | (refine CallN.ex (k_Fill l _ q2 (by omega) ht (by omega)) ?_; rintro _ _ ⟨b, k2, rfl, rfl, hb, hk2⟩) | (with_reducible apply Frz.l)) <;> conv => whnf) | fail)
  have ca := k_cut a 1 .no (by omega)
  have cb1 := k_cut b 1 .no (by omega)
  have cb2 := k_cut b 2 .no (by omega)
  have hch := fun (b : List UInt8) (g : Int) (h : 1 ≤ b.length ∧ b.length ≤ 2047) => spF_chn (room := 13) (tag := g) (b := b) h (by omega) b.length 0 (by omega) (by omega) (by omega)
  have hln := fun (b : List UInt8) (g : Int) => spF_len (room := 13) (tag := g) (b := b) (by omega) b.length 0
  obtain ⟨D, d1, d2, d3, d4, d5⟩ : ∃ D : Dat, D.src = dev 1 ∧ D.dst = dev 9 ∧ D.b = a ∧ D.f = cutB a 1 ∧ D.tag = 1 := ⟨⟨dev 1, dev 9, 1, a, cutB a 1, by decide, by decide, by omega, hch a 1 (by omega)⟩, rfl, rfl, rfl, rfl, rfl⟩
  have hDl : D.f.length ≤ 100 := by rw [d4]; exact Nat.le_trans (hln a 1) (by omega)
  have cSa := k_octSame a a .no .no (by omega)
  have cSb := k_octSame b b .no .no (by omega)
  rw [decide_eq_true rfl] at cSa cSb
  rw [← d4] at ca
  cases other
  · skip
    repeat' (first | ((first | (apply CallN.mk (ca)) | (apply CallN.mk (cb1)) | (apply CallN.mk (cb2)) | (apply CallN.mk (cd1)) | (apply CallN.mk (cd2)) | (with_reducible apply Bif.F) | (with_reducible apply Bif.not) | (with_reducible apply Frz.l)) <;> conv => whnf) | fail)
    obtain ⟨E, e1, e2, e3, e4, e5⟩ : ∃ E : Dat, E.src = dev 1 ∧ E.dst = dev 9 ∧ E.b = b ∧ E.f = cutB b 2 ∧ E.tag = 2 := ⟨⟨dev 1, dev 9, 2, b, cutB b 2, by decide, by decide, by omega, hch b 2 (by omega)⟩, rfl, rfl, rfl, rfl, rfl⟩
    have hEl : E.f.length ≤ 100 := by rw [e4]; exact Nat.le_trans (hln b 2) (by omega)
    have hO : D.Oth E := fun h => by rw [d1, e1, d5, e5] at h; exact absurd h (by decide)
    rw [← e4]
    refine LoopN.nilS 17 10 rfl ?_
    refine loop_keep ttok mixed (T0 := 2787593149816327893900890639728869445205023) [3, 12, 13, 14, 15] (ι := ApI D E)
      (fun p => [(16, .pb 1 []), (17, .fs .no 10 (lst bufV p.L)), (18, int (p.i : Int)), (19, int (p.j : Int)), (20, int (p.s : Int))]) (fun p => [.cells (tape l k2), .cells (adrV (dev 1))]) (fun p => D.f.length + E.f.length - (p.i + p.j)) ⟨0, 0, 0, [], by omega, by omega, rfl, by simp [Dat.pl]⟩ ?_
    conv => whnf
    repeat' (first | ((first | (with_reducible apply Same.rfl) | (apply Same.int; focus rfl) | (apply Same.rfl) | (with_reducible apply Frz.l)) <;> conv => whnf) | fail)
    rintro ⟨i, j, s, L, hi, hj, hs, hL⟩
    dsimp only
    conv => whnf
    by_cases hE : i < D.f.length ∨ j < E.f.length
    · by_cases hf : i < D.f.length ∧ (j = E.f.length ∨ (s < T.length ∧ gt T s = true))
      · obtain ⟨hi', hf⟩ := hf
        obtain ⟨L', s1, s2⟩ := Dat.apart_step hO (j := j) hi' hL
        have ci := k_xAdd L .no (validL_siz (Dat.pl_valid hO i j hL)) (dev 1) (dev 9) (gt D.f i) (by have := D.dlen hi'; omega) 3
        rw [← d1, ← d2, s1, d1, d2, d3] at ci
        by_cases hl : i + 1 = D.f.length
        · rw [if_pos hl] at ci
          rcases hf with hf | ⟨hf, hb⟩
          · repeat' (first | ((first | ((with_reducible apply Nm.mk); focus ((try simp only [lns]); exact rfl)) | ((with_reducible apply Wr.i64); focus omega) | ((with_reducible apply Need.mk); focus first | (simp only [lns]; omega) | kernel_rfl) | ((with_reducible apply Elem.lst); focus omega) | (apply CallN.mk (cd1)) | (apply CallN.mk (cd9)) | (apply CallN.mk (ci)) | (apply CallN.mk (cSa)) | (with_reducible first | apply Bif.T | apply Bif.F) | ((with_reducible first | apply Bif.dec | apply Bif.beq | apply Bif.bne) <;> intro h <;> (try simp only [lns] at h) <;> (try (exfalso; omega))) | (with_reducible apply Bif.not) | (with_reducible apply Frz.l)) <;> conv => whnf) | fail)
            all_goals ((refine ⟨⟨i + 1, j, s + 1, L', by omega, hj, by omega, s2⟩, ?_⟩; (try dsimp only); conv => whnf); repeat' (first | with_reducible apply True.intro | ((apply Same.mk rfl); (conv => whnf)) | ((first | ((with_reducible apply Need.mk); focus omega) | (with_reducible apply Turn.l) | (with_reducible apply Frz.l)) <;> conv => whnf) | fail))
          · repeat' (first | ((first | ((with_reducible apply Nm.mk); focus ((try simp only [lns]); exact rfl)) | ((with_reducible apply Wr.i64); focus omega) | ((with_reducible apply Need.mk); focus first | (simp only [lns]; omega) | kernel_rfl) | ((with_reducible apply Elem.lst); focus omega) | (apply CallN.mk (cd1)) | (apply CallN.mk (cd9)) | (apply CallN.mk (ci)) | (apply CallN.mk (cSa)) | (with_reducible first | apply Bif.T | apply Bif.F) | ((with_reducible first | apply Bif.dec | apply Bif.beq | apply Bif.bne) <;> intro h <;> (try simp only [lns] at h) <;> (try (exfalso; omega))) | (with_reducible apply Bif.not) | ((with_reducible apply Bif.mk) <;> intro h <;> (try (exact absurd ‹gt T s = false› (by rw [hb]; decide)))) | (with_reducible apply Frz.l)) <;> conv => whnf) | fail)
            all_goals ((refine ⟨⟨i + 1, j, s + 1, L', by omega, hj, by omega, s2⟩, ?_⟩; (try dsimp only); conv => whnf); repeat' (first | with_reducible apply True.intro | ((apply Same.mk rfl); (conv => whnf)) | ((first | ((with_reducible apply Need.mk); focus omega) | (with_reducible apply Turn.l) | (with_reducible apply Frz.l)) <;> conv => whnf) | fail))
        · rw [if_neg hl] at ci
          rcases hf with hf | ⟨hf, hb⟩
          · repeat' (first | ((first | ((with_reducible apply Nm.mk); focus ((try simp only [lns]); exact rfl)) | ((with_reducible apply Wr.i64); focus omega) | ((with_reducible apply Need.mk); focus first | (simp only [lns]; omega) | kernel_rfl) | ((with_reducible apply Elem.lst); focus omega) | (apply CallN.mk (cd1)) | (apply CallN.mk (cd9)) | (apply CallN.mk (ci)) | (with_reducible first | apply Bif.T | apply Bif.F) | ((with_reducible first | apply Bif.dec | apply Bif.beq | apply Bif.bne) <;> intro h <;> (try simp only [lns] at h) <;> (try (exfalso; omega))) | (with_reducible apply Bif.not) | (with_reducible apply Frz.l)) <;> conv => whnf) | fail)
            all_goals ((refine ⟨⟨i + 1, j, s + 1, L', by omega, hj, by omega, s2⟩, ?_⟩; (try dsimp only); conv => whnf); repeat' (first | with_reducible apply True.intro | ((apply Same.mk rfl); (conv => whnf)) | ((first | ((with_reducible apply Need.mk); focus omega) | (with_reducible apply Turn.l) | (with_reducible apply Frz.l)) <;> conv => whnf) | fail))
          · repeat' (first | ((first | ((with_reducible apply Nm.mk); focus ((try simp only [lns]); exact rfl)) | ((with_reducible apply Wr.i64); focus omega) | ((with_reducible apply Need.mk); focus first | (simp only [lns]; omega) | kernel_rfl) | ((with_reducible apply Elem.lst); focus omega) | (apply CallN.mk (cd1)) | (apply CallN.mk (cd9)) | (apply CallN.mk (ci)) | (with_reducible first | apply Bif.T | apply Bif.F) | ((with_reducible first | apply Bif.dec | apply Bif.beq | apply Bif.bne) <;> intro h <;> (try simp only [lns] at h) <;> (try (exfalso; omega))) | (with_reducible apply Bif.not) | ((with_reducible apply Bif.mk) <;> intro h <;> (try (exact absurd ‹gt T s = false› (by rw [hb]; decide)))) | (with_reducible apply Frz.l)) <;> conv => whnf) | fail)
            all_goals ((refine ⟨⟨i + 1, j, s + 1, L', by omega, hj, by omega, s2⟩, ?_⟩; (try dsimp only); conv => whnf); repeat' (first | with_reducible apply True.intro | ((apply Same.mk rfl); (conv => whnf)) | ((first | ((with_reducible apply Need.mk); focus omega) | (with_reducible apply Turn.l) | (with_reducible apply Frz.l)) <;> conv => whnf) | fail))
      · have hj' : j < E.f.length := by
          rcases hE with h | h
          · rcases Nat.lt_or_ge j E.f.length with h1 | h1
            · exact h1
            · exact absurd ⟨h, .inl (by omega)⟩ hf
          · exact h
        obtain ⟨L', s1, s2⟩ := Dat.apart_step hO.symm (j := i) hj' hL.symm
        have ci := k_xAdd L .no (validL_siz (Dat.pl_valid hO i j hL)) (dev 1) (dev 9) (gt E.f j) (by have := E.dlen hj'; omega) 3
        rw [← e1, ← e2, s1, e1, e2, e3] at ci
        by_cases hl : j + 1 = E.f.length
        · rw [if_pos hl] at ci
          · repeat' (first | ((first | ((with_reducible apply Nm.mk); focus ((try simp only [lns]); exact rfl)) | ((with_reducible apply Wr.i64); focus omega) | ((with_reducible apply Need.mk); focus first | (simp only [lns]; omega) | kernel_rfl) | ((with_reducible apply Elem.lst); focus omega) | (apply CallN.mk (cd9)) | (apply CallN.mk (ci)) | (apply CallN.mk (cSb)) | (with_reducible first | apply Bif.T | apply Bif.F) | ((with_reducible first | apply Bif.dec | apply Bif.beq | apply Bif.bne) <;> intro h <;> (try simp only [lns] at h) <;> (try (exfalso; omega))) | (with_reducible apply Bif.not) | ((with_reducible apply Bif.mk) <;> intro h <;> (try (exact absurd ⟨by omega, .inr ⟨by omega, ‹_›⟩⟩ hf))) | (with_reducible apply Frz.l)) <;> conv => whnf) | fail)
            all_goals ((refine ⟨⟨i, j + 1, s + 1, L', hi, by omega, by omega, s2.symm⟩, ?_⟩; (try dsimp only); conv => whnf); repeat' (first | with_reducible apply True.intro | ((apply Same.mk rfl); (conv => whnf)) | ((first | ((with_reducible apply Need.mk); focus omega) | (with_reducible apply Turn.l) | (with_reducible apply Frz.l)) <;> conv => whnf) | fail))
        · rw [if_neg hl] at ci
          · repeat' (first | ((first | ((with_reducible apply Nm.mk); focus ((try simp only [lns]); exact rfl)) | ((with_reducible apply Wr.i64); focus omega) | ((with_reducible apply Need.mk); focus first | (simp only [lns]; omega) | kernel_rfl) | ((with_reducible apply Elem.lst); focus omega) | (apply CallN.mk (cd9)) | (apply CallN.mk (ci)) | (with_reducible first | apply Bif.T | apply Bif.F) | ((with_reducible first | apply Bif.dec | apply Bif.beq | apply Bif.bne) <;> intro h <;> (try simp only [lns] at h) <;> (try (exfalso; omega))) | (with_reducible apply Bif.not) | ((with_reducible apply Bif.mk) <;> intro h <;> (try (exact absurd ⟨by omega, .inr ⟨by omega, ‹_›⟩⟩ hf))) | (with_reducible apply Frz.l)) <;> conv => whnf) | fail)
            all_goals ((refine ⟨⟨i, j + 1, s + 1, L', hi, by omega, by omega, s2.symm⟩, ?_⟩; (try dsimp only); conv => whnf); repeat' (first | with_reducible apply True.intro | ((apply Same.mk rfl); (conv => whnf)) | ((first | ((with_reducible apply Need.mk); focus omega) | (with_reducible apply Turn.l) | (with_reducible apply Frz.l)) <;> conv => whnf) | fail))
    · have h1 : D.pl i = [] := by unfold Dat.pl; rw [if_neg (by omega)]
      have h2 : E.pl j = [] := by unfold Dat.pl; rw [if_neg (by omega)]
      have h3 : L = [] := by rcases hL with rfl | rfl <;> simp [h1, h2]
      subst h3
      repeat' (first | with_reducible apply True.intro | ((first | ((with_reducible apply Nm.mk); focus ((try simp only [lns]); exact rfl)) | (apply CallN.mk (cK)) | (with_reducible first | apply Bif.T | apply Bif.F) | ((with_reducible apply Bif.dec) <;> intro h <;> (try simp only [lns] at h) <;> (try (exfalso; omega))) | (apply Same.rfl) | (with_reducible apply Frz.l)) <;> conv => whnf) | fail)
  · skip
    repeat' (first | ((first | (apply CallN.mk (ca)) | (apply CallN.mk (cb1)) | (apply CallN.mk (cd2)) | (with_reducible apply Bif.T) | (with_reducible apply Bif.not) | (with_reducible apply Frz.l)) <;> conv => whnf) | fail)
    obtain ⟨E, e1, e2, e3, e4, e5⟩ : ∃ E : Dat, E.src = dev 2 ∧ E.dst = dev 9 ∧ E.b = b ∧ E.f = cutB b 1 ∧ E.tag = 1 := ⟨⟨dev 2, dev 9, 1, b, cutB b 1, by decide, by decide, by omega, hch b 1 (by omega)⟩, rfl, rfl, rfl, rfl, rfl⟩
    have hEl : E.f.length ≤ 100 := by rw [e4]; exact Nat.le_trans (hln b 1) (by omega)
    have hO : D.Oth E := fun h => by rw [d1, e1, d5, e5] at h; exact absurd h (by decide)
    rw [← e4]
    refine LoopN.nilS 17 10 rfl ?_
    refine loop_keep ttok mixed (T0 := 2787593149816327893900890639728869445205023) [3, 12, 13, 14, 15] (ι := ApI D E)
      (fun p => [(16, .pb 1 []), (17, .fs .no 10 (lst bufV p.L)), (18, int (p.i : Int)), (19, int (p.j : Int)), (20, int (p.s : Int))]) (fun p => [.cells (tape l k2), .cells (adrV (dev 2))]) (fun p => D.f.length + E.f.length - (p.i + p.j)) ⟨0, 0, 0, [], by omega, by omega, rfl, by simp [Dat.pl]⟩ ?_
    conv => whnf
    repeat' (first | ((first | (with_reducible apply Same.rfl) | (apply Same.int; focus rfl) | (apply Same.rfl) | (with_reducible apply Frz.l)) <;> conv => whnf) | fail)
    rintro ⟨i, j, s, L, hi, hj, hs, hL⟩
    dsimp only
    conv => whnf
    by_cases hE : i < D.f.length ∨ j < E.f.length
    · by_cases hf : i < D.f.length ∧ (j = E.f.length ∨ (s < T.length ∧ gt T s = true))
      · obtain ⟨hi', hf⟩ := hf
        obtain ⟨L', s1, s2⟩ := Dat.apart_step hO (j := j) hi' hL
        have ci := k_xAdd L .no (validL_siz (Dat.pl_valid hO i j hL)) (dev 1) (dev 9) (gt D.f i) (by have := D.dlen hi'; omega) 3
        rw [← d1, ← d2, s1, d1, d2, d3] at ci
        by_cases hl : i + 1 = D.f.length
        · rw [if_pos hl] at ci
          rcases hf with hf | ⟨hf, hb⟩
          · repeat' (first | ((first | ((with_reducible apply Nm.mk); focus ((try simp only [lns]); exact rfl)) | ((with_reducible apply Wr.i64); focus omega) | ((with_reducible apply Need.mk); focus first | (simp only [lns]; omega) | kernel_rfl) | ((with_reducible apply Elem.lst); focus omega) | (apply CallN.mk (cd1)) | (apply CallN.mk (cd9)) | (apply CallN.mk (ci)) | (apply CallN.mk (cSa)) | (with_reducible first | apply Bif.T | apply Bif.F) | ((with_reducible first | apply Bif.dec | apply Bif.beq | apply Bif.bne) <;> intro h <;> (try simp only [lns] at h) <;> (try (exfalso; omega))) | (with_reducible apply Bif.not) | (with_reducible apply Frz.l)) <;> conv => whnf) | fail)
            all_goals ((refine ⟨⟨i + 1, j, s + 1, L', by omega, hj, by omega, s2⟩, ?_⟩; (try dsimp only); conv => whnf); repeat' (first | with_reducible apply True.intro | ((apply Same.mk rfl); (conv => whnf)) | ((first | ((with_reducible apply Need.mk); focus omega) | (with_reducible apply Turn.l) | (with_reducible apply Frz.l)) <;> conv => whnf) | fail))
          · repeat' (first | ((first | ((with_reducible apply Nm.mk); focus ((try simp only [lns]); exact rfl)) | ((with_reducible apply Wr.i64); focus omega) | ((with_reducible apply Need.mk); focus first | (simp only [lns]; omega) | kernel_rfl) | ((with_reducible apply Elem.lst); focus omega) | (apply CallN.mk (cd1)) | (apply CallN.mk (cd9)) | (apply CallN.mk (ci)) | (apply CallN.mk (cSa)) | (with_reducible first | apply Bif.T | apply Bif.F) | ((with_reducible first | apply Bif.dec | apply Bif.beq | apply Bif.bne) <;> intro h <;> (try simp only [lns] at h) <;> (try (exfalso; omega))) | (with_reducible apply Bif.not) | ((with_reducible apply Bif.mk) <;> intro h <;> (try (exact absurd ‹gt T s = false› (by rw [hb]; decide)))) | (with_reducible apply Frz.l)) <;> conv => whnf) | fail)
            all_goals ((refine ⟨⟨i + 1, j, s + 1, L', by omega, hj, by omega, s2⟩, ?_⟩; (try dsimp only); conv => whnf); repeat' (first | with_reducible apply True.intro | ((apply Same.mk rfl); (conv => whnf)) | ((first | ((with_reducible apply Need.mk); focus omega) | (with_reducible apply Turn.l) | (with_reducible apply Frz.l)) <;> conv => whnf) | fail))
        · rw [if_neg hl] at ci
          rcases hf with hf | ⟨hf, hb⟩
          · repeat' (first | ((first | ((with_reducible apply Nm.mk); focus ((try simp only [lns]); exact rfl)) | ((with_reducible apply Wr.i64); focus omega) | ((with_reducible apply Need.mk); focus first | (simp only [lns]; omega) | kernel_rfl) | ((with_reducible apply Elem.lst); focus omega) | (apply CallN.mk (cd1)) | (apply CallN.mk (cd9)) | (apply CallN.mk (ci)) | (with_reducible first | apply Bif.T | apply Bif.F) | ((with_reducible first | apply Bif.dec | apply Bif.beq | apply Bif.bne) <;> intro h <;> (try simp only [lns] at h) <;> (try (exfalso; omega))) | (with_reducible apply Bif.not) | (with_reducible apply Frz.l)) <;> conv => whnf) | fail)
            all_goals ((refine ⟨⟨i + 1, j, s + 1, L', by omega, hj, by omega, s2⟩, ?_⟩; (try dsimp only); conv => whnf); repeat' (first | with_reducible apply True.intro | ((apply Same.mk rfl); (conv => whnf)) | ((first | ((with_reducible apply Need.mk); focus omega) | (with_reducible apply Turn.l) | (with_reducible apply Frz.l)) <;> conv => whnf) | fail))
          · repeat' (first | ((first | ((with_reducible apply Nm.mk); focus ((try simp only [lns]); exact rfl)) | ((with_reducible apply Wr.i64); focus omega) | ((with_reducible apply Need.mk); focus first | (simp only [lns]; omega) | kernel_rfl) | ((with_reducible apply Elem.lst); focus omega) | (apply CallN.mk (cd1)) | (apply CallN.mk (cd9)) | (apply CallN.mk (ci)) | (with_reducible first | apply Bif.T | apply Bif.F) | ((with_reducible first | apply Bif.dec | apply Bif.beq | apply Bif.bne) <;> intro h <;> (try simp only [lns] at h) <;> (try (exfalso; omega))) | (with_reducible apply Bif.not) | ((with_reducible apply Bif.mk) <;> intro h <;> (try (exact absurd ‹gt T s = false› (by rw [hb]; decide)))) | (with_reducible apply Frz.l)) <;> conv => whnf) | fail)
            all_goals ((refine ⟨⟨i + 1, j, s + 1, L', by omega, hj, by omega, s2⟩, ?_⟩; (try dsimp only); conv => whnf); repeat' (first | with_reducible apply True.intro | ((apply Same.mk rfl); (conv => whnf)) | ((first | ((with_reducible apply Need.mk); focus omega) | (with_reducible apply Turn.l) | (with_reducible apply Frz.l)) <;> conv => whnf) | fail))
      · have hj' : j < E.f.length := by
          rcases hE with h | h
          · rcases Nat.lt_or_ge j E.f.length with h1 | h1
            · exact h1
            · exact absurd ⟨h, .inl (by omega)⟩ hf
          · exact h
        obtain ⟨L', s1, s2⟩ := Dat.apart_step hO.symm (j := i) hj' hL.symm
        have ci := k_xAdd L .no (validL_siz (Dat.pl_valid hO i j hL)) (dev 2) (dev 9) (gt E.f j) (by have := E.dlen hj'; omega) 3
        rw [← e1, ← e2, s1, e1, e2, e3] at ci
        by_cases hl : j + 1 = E.f.length
        · rw [if_pos hl] at ci
          · repeat' (first | ((first | ((with_reducible apply Nm.mk); focus ((try simp only [lns]); exact rfl)) | ((with_reducible apply Wr.i64); focus omega) | ((with_reducible apply Need.mk); focus first | (simp only [lns]; omega) | kernel_rfl) | ((with_reducible apply Elem.lst); focus omega) | (apply CallN.mk (cd9)) | (apply CallN.mk (ci)) | (apply CallN.mk (cSb)) | (with_reducible first | apply Bif.T | apply Bif.F) | ((with_reducible first | apply Bif.dec | apply Bif.beq | apply Bif.bne) <;> intro h <;> (try simp only [lns] at h) <;> (try (exfalso; omega))) | (with_reducible apply Bif.not) | ((with_reducible apply Bif.mk) <;> intro h <;> (try (exact absurd ⟨by omega, .inr ⟨by omega, ‹_›⟩⟩ hf))) | (with_reducible apply Frz.l)) <;> conv => whnf) | fail)
            all_goals ((refine ⟨⟨i, j + 1, s + 1, L', hi, by omega, by omega, s2.symm⟩, ?_⟩; (try dsimp only); conv => whnf); repeat' (first | with_reducible apply True.intro | ((apply Same.mk rfl); (conv => whnf)) | ((first | ((with_reducible apply Need.mk); focus omega) | (with_reducible apply Turn.l) | (with_reducible apply Frz.l)) <;> conv => whnf) | fail))
        · rw [if_neg hl] at ci
          · repeat' (first | ((first | ((with_reducible apply Nm.mk); focus ((try simp only [lns]); exact rfl)) | ((with_reducible apply Wr.i64); focus omega) | ((with_reducible apply Need.mk); focus first | (simp only [lns]; omega) | kernel_rfl) | ((with_reducible apply Elem.lst); focus omega) | (apply CallN.mk (cd9)) | (apply CallN.mk (ci)) | (with_reducible first | apply Bif.T | apply Bif.F) | ((with_reducible first | apply Bif.dec | apply Bif.beq | apply Bif.bne) <;> intro h <;> (try simp only [lns] at h) <;> (try (exfalso; omega))) | (with_reducible apply Bif.not) | ((with_reducible apply Bif.mk) <;> intro h <;> (try (exact absurd ⟨by omega, .inr ⟨by omega, ‹_›⟩⟩ hf))) | (with_reducible apply Frz.l)) <;> conv => whnf) | fail)
            all_goals ((refine ⟨⟨i, j + 1, s + 1, L', hi, by omega, by omega, s2.symm⟩, ?_⟩; (try dsimp only); conv => whnf); repeat' (first | with_reducible apply True.intro | ((apply Same.mk rfl); (conv => whnf)) | ((first | ((with_reducible apply Need.mk); focus omega) | (with_reducible apply Turn.l) | (with_reducible apply Frz.l)) <;> conv => whnf) | fail))
    · have h1 : D.pl i = [] := by unfold Dat.pl; rw [if_neg (by omega)]
      have h2 : E.pl j = [] := by unfold Dat.pl; rw [if_neg (by omega)]
      have h3 : L = [] := by rcases hL with rfl | rfl <;> simp [h1, h2]
      subst h3
      repeat' (first | with_reducible apply True.intro | ((first | ((with_reducible apply Nm.mk); focus ((try simp only [lns]); exact rfl)) | (apply CallN.mk (cK)) | (with_reducible first | apply Bif.T | apply Bif.F) | ((with_reducible apply Bif.dec) <;> intro h <;> (try simp only [lns] at h) <;> (try (exfalso; omega))) | (apply Same.rfl) | (with_reducible apply Frz.l)) <;> conv => whnf) | fail)
end Go.Fw
