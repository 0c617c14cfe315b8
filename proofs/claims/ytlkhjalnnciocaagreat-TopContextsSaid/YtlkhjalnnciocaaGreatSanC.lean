/- The sanity check's packet, compressed. -/
import Derived.Test.YtlkhjalnnciocaaGreatSanB
namespace Go.Fw
open Go.Proofs
set_option maxHeartbeats 8000000
set_option maxRecDepth 8000
theorem k_inPort (p a n : Nat) (hp : p ≤ 65535) (ha : a ≤ 65535) (hn : n ≤ 65535) : Con Tryz.prog 153 [.v (.int .u16 (p : Int)), int (a : Int), int (n : Int)] [] (bool (decide (a ≤ p ∧ p < a + n))) [] := by
  refine spec_of_run ttok mixed (T0 := 71) (ts := [.tmp 6]) 19 rfl rfl rfl rfl (by simp) rfl ?_
  conv => whnf
  repeat' (first | ((first | ((with_reducible apply Wr.i64); focus omega) | (with_reducible first | apply Bif.T | apply Bif.F) | ((with_reducible apply Bif.dec) <;> intro h <;> (try simp only [lns] at h)) | (with_reducible apply Frz.l)) <;> conv => whnf) | fail)
  all_goals (apply Same.bool (by rw [Bool.eq_iff_iff]; simp; omega); (conv => whnf); repeat' (first | with_reducible apply True.intro | ((with_reducible apply Frz.l) <;> conv => whnf) | fail))
/-- One more number behind the bytes, in a box. -/
theorem k_add1 (b : List UInt8) (v n : Nat) (hn : n ≤ 8) (hb : b.length ≤ 10000) : Con Tryz.prog 154 [q64 (v : Int), int (n : Int), .pb 0 []] [.cells (bys b)] (.tup []) [.cells (.ov 1 1 0 (b.length + n)), .arr (some (b.length + n)) 1 (lst b8 (b ++ beN n v))] := by
  have c := fun t => k_Append b v n t hn (by omega)
  refine spec_of_run ttok mixed (T0 := 7) (ts := []) 9 rfl rfl rfl rfl (by simp) rfl ?_
  conv => whnf
  repeat' (first | with_reducible apply True.intro | ((apply Same.mk rfl); (conv => whnf)) | ((first | (apply CallN.mk (c _)) | (with_reducible apply Frz.l)) <;> conv => whnf) | fail)
theorem k_add2 (b : List UInt8) (v n L : Nat) (x : Nat) (hL : L = b.length) (hn : n ≤ 8) (hb : b.length ≤ 10000) : ConK Tryz.prog 154 [q64 (v : Int), int (n : Int), .pb 0 []] [.cells (.ov 1 1 0 L), .arr (some x) 1 (lst b8 b)] (.tup []) [.cells (.ov 1 2 0 (L + n)), .arr (some x) 1 (lst b8 b), .arr (some (L + n)) 1 (lst b8 (b ++ beN n v))] := by
  subst hL
  have c := fun t => k_Append b v n t hn (by omega)
  refine spec_of_runK ttok mixed (T0 := 7) (ts := []) 9 rfl rfl rfl rfl (by simp) rfl ?_
  conv => whnf
  repeat' (first | with_reducible apply True.intro | ((apply Nm.mk (nm_all rfl)); (conv => whnf)) | ((apply Same.mk rfl); (conv => whnf)) | ((first | ((with_reducible apply Need.mk); focus first | (simp only [lns]; omega) | exact CleanP.lst rfl (fun _ => rfl)) | (apply CallN.mk (c _)) | (with_reducible apply GiveN.lend) | (with_reducible apply Frz.l)) <;> conv => whnf) | fail)
/-- The compressed UDP header. -/
def half (x : Nat) : Prop := 61616 ≤ x ∧ x < 61632
def byt (x : Nat) : Prop := 61440 ≤ x ∧ x < 61696
instance (x : Nat) : Decidable (half x) := inferInstanceAs (Decidable (_ ∧ _))
instance (x : Nat) : Decidable (byt x) := inferInstanceAs (Decidable (_ ∧ _))
def udpB (p : Pkt) (s : Nat) : List UInt8 :=
  if half p.sp ∧ half p.dp then [] ++ beN 1 243 ++ beN 1 ((p.sp - 61616) * 16 + (p.dp - 61616)) ++ beN 2 s
  else if byt p.dp then [] ++ beN 1 241 ++ beN 2 p.sp ++ beN 1 (p.dp - 61440) ++ beN 2 s
  else if byt p.sp then [] ++ beN 1 242 ++ beN 1 (p.sp - 61440) ++ beN 2 p.dp ++ beN 2 s
  else [] ++ beN 1 240 ++ beN 2 p.sp ++ beN 2 p.dp ++ beN 2 s
theorem udpB_len (p : Pkt) (s : Nat) : (udpB p s).length ≤ 7 := by
  unfold udpB; split
  · simp [beN_len]
  · split
    · simp [beN_len]
    · split <;> simp [beN_len]
theorem k_appendUDP (b : List UInt8) (p : Pkt) (t : Tg) (h : VP p) (hn : p.next = 17) (hb : b.length ≤ 1000) : ∃ x, Con Tryz.prog 82 [bys b, pktV p] [] (.ov 1 0 0 (b ++ udpB p (sumP p)).length) [.arr (some x) 1 (lst b8 (b ++ udpB p (sumP p)))] := by
  obtain ⟨hs, cs⟩ := k_pSum p h hn
  have hsp := h.sp
  have hdp := h.dp
  have i1 := k_inPort p.sp 61616 16 hsp (by decide) (by decide)
  have i2 := k_inPort p.dp 61616 16 hdp (by decide) (by decide)
  have i3 := k_inPort p.dp 61440 256 hdp (by decide) (by decide)
  have i4 := k_inPort p.sp 61440 256 hsp (by decide) (by decide)
  refine ⟨(b ++ udpB p (sumP p)).length, ?_⟩
  unfold udpB
  by_cases hA : half p.sp ∧ half p.dp
  · rw [if_pos hA]
    rw [decide_eq_true (⟨by have := hA.1.1; omega, by have := hA.1.2; omega⟩ : 61616 ≤ p.sp ∧ p.sp < 61616 + 16)] at i1
    rw [decide_eq_true (⟨by have := hA.2.1; omega, by have := hA.2.2; omega⟩ : 61616 ≤ p.dp ∧ p.dp < 61616 + 16)] at i2
    have a1 := k_add1 b 243 1 (by decide) (by omega)
    have a2 := k_add2 (b ++ beN 1 243) ((p.sp - 61616) * 16 + (p.dp - 61616)) 1 (b.length + 1) (b.length + 1) (by simp [beN_len]) (by decide) (by simp [beN_len]; omega)
    have a3 := k_add2 (b ++ beN 1 243 ++ beN 1 ((p.sp - 61616) * 16 + (p.dp - 61616))) (sumP p) 2 (b.length + 1 + 1) (b.length + 1 + 1) (by simp [beN_len]) (by decide) (by simp [beN_len]; omega)
    obtain ⟨⟨q1, q2⟩, q3, q4⟩ := hA
    have e2 : ((p.sp : Int) - 61616) * 16 + (p.dp : Int) - 61616 = (((p.sp - 61616) * 16 + (p.dp - 61616) : Nat) : Int) := by omega
    rw [← e2] at a2
    refine spec_of_run ttok mixed (T0 := 576495936692290047) (ts := [.tmp 4]) 79 rfl rfl rfl rfl (by simp) rfl ?_
    conv => whnf
    repeat' (first | with_reducible apply True.intro | ((with_reducible apply GiveN.keep []); (conv => whnf)) | ((apply Same.mk rfl); (conv => whnf)) | ((apply Same.mk); (focus (simp [beN_len]; done)); (conv => whnf)) | ((first | ((with_reducible apply Wr.u64); focus omega) | ((with_reducible apply Need.mk); focus kernel_rfl) | (apply CallN.mk (i1)) | (apply CallN.mk (i2)) | (apply CallN.mk (cs)) | (apply CallN.mk (a1)) | (apply CallKN.mk (a2)) | (apply CallKN.mk (a3)) | (with_reducible apply Bif.T) | (with_reducible apply Frz.l)) <;> conv => whnf) | fail)
  · rw [if_neg hA]
    have hA2 : ¬ ((61616 ≤ p.sp ∧ p.sp < 61616 + 16) ∧ (61616 ≤ p.dp ∧ p.dp < 61616 + 16)) := fun g => hA ⟨⟨by omega, by omega⟩, ⟨by omega, by omega⟩⟩
    by_cases hB : byt p.dp
    · rw [if_pos hB]
      obtain ⟨q3, q4⟩ := hB
      rw [decide_eq_true (⟨by omega, by omega⟩ : 61440 ≤ p.dp ∧ p.dp < 61440 + 256)] at i3
      have a1 := k_add1 b 241 1 (by decide) (by omega)
      have a2 := k_add2 (b ++ beN 1 241) p.sp 2 (b.length + 1) (b.length + 1) (by simp [beN_len]) (by decide) (by simp [beN_len]; omega)
      have a3 := k_add2 (b ++ beN 1 241 ++ beN 2 p.sp) (p.dp - 61440) 1 (b.length + 1 + 2) (b.length + 1 + 2) (by simp [beN_len]) (by decide) (by simp [beN_len]; omega)
      have a4 := k_add2 (b ++ beN 1 241 ++ beN 2 p.sp ++ beN 1 (p.dp - 61440)) (sumP p) 2 (b.length + 1 + 2 + 1) (b.length + 1 + 2 + 1) (by simp [beN_len]) (by decide) (by simp [beN_len]; omega)
      have e2 : (p.dp : Int) - 61440 = ((p.dp - 61440 : Nat) : Int) := by omega
      rw [← e2] at a3
      refine spec_of_run ttok mixed (T0 := 576495936692290047) (ts := [.tmp 4]) 79 rfl rfl rfl rfl (by simp) rfl ?_
      conv => whnf
      repeat' (first | with_reducible apply True.intro | ((with_reducible apply GiveN.keep []); (conv => whnf)) | ((apply Same.mk rfl); (conv => whnf)) | ((apply Same.mk); (focus (simp [beN_len]; done)); (conv => whnf)) | ((first | ((with_reducible apply Wr.u64); focus omega) | ((with_reducible apply Need.mk); focus kernel_rfl) | (apply CallN.mk (i1)) | (apply CallN.mk (i2)) | (apply CallN.mk (i3)) | (apply CallN.mk (cs)) | (apply CallN.mk (a1)) | (apply CallKN.mk (a2)) | (apply CallKN.mk (a3)) | (apply CallKN.mk (a4)) | (with_reducible first | apply Bif.T | apply Bif.F) | ((with_reducible apply Bif.dec) <;> intro h <;> (try simp only [lns] at h) <;> (try (exfalso; omega))) | (with_reducible apply Frz.l)) <;> conv => whnf) | fail)
    · rw [if_neg hB]
      have hB2 : ¬ (61440 ≤ p.dp ∧ p.dp < 61440 + 256) := fun g => hB ⟨by omega, by omega⟩
      rw [decide_eq_false hB2] at i3
      by_cases hC : byt p.sp
      · rw [if_pos hC]
        obtain ⟨q3, q4⟩ := hC
        rw [decide_eq_true (⟨by omega, by omega⟩ : 61440 ≤ p.sp ∧ p.sp < 61440 + 256)] at i4
        have a1 := k_add1 b 242 1 (by decide) (by omega)
        have a2 := k_add2 (b ++ beN 1 242) (p.sp - 61440) 1 (b.length + 1) (b.length + 1) (by simp [beN_len]) (by decide) (by simp [beN_len]; omega)
        have a3 := k_add2 (b ++ beN 1 242 ++ beN 1 (p.sp - 61440)) p.dp 2 (b.length + 1 + 1) (b.length + 1 + 1) (by simp [beN_len]) (by decide) (by simp [beN_len]; omega)
        have a4 := k_add2 (b ++ beN 1 242 ++ beN 1 (p.sp - 61440) ++ beN 2 p.dp) (sumP p) 2 (b.length + 1 + 1 + 2) (b.length + 1 + 1 + 2) (by simp [beN_len]) (by decide) (by simp [beN_len]; omega)
        have e2 : (p.sp : Int) - 61440 = ((p.sp - 61440 : Nat) : Int) := by omega
        rw [← e2] at a2
        refine spec_of_run ttok mixed (T0 := 576495936692290047) (ts := [.tmp 4]) 79 rfl rfl rfl rfl (by simp) rfl ?_
        conv => whnf
        repeat' (first | with_reducible apply True.intro | ((with_reducible apply GiveN.keep []); (conv => whnf)) | ((apply Same.mk rfl); (conv => whnf)) | ((apply Same.mk); (focus (simp [beN_len]; done)); (conv => whnf)) | ((first | ((with_reducible apply Wr.u64); focus omega) | ((with_reducible apply Need.mk); focus kernel_rfl) | (apply CallN.mk (i1)) | (apply CallN.mk (i2)) | (apply CallN.mk (i3)) | (apply CallN.mk (i4)) | (apply CallN.mk (cs)) | (apply CallN.mk (a1)) | (apply CallKN.mk (a2)) | (apply CallKN.mk (a3)) | (apply CallKN.mk (a4)) | (with_reducible first | apply Bif.T | apply Bif.F) | ((with_reducible apply Bif.dec) <;> intro h <;> (try simp only [lns] at h) <;> (try (exfalso; omega))) | (with_reducible apply Frz.l)) <;> conv => whnf) | fail)
      · rw [if_neg hC]
        have hC2 : ¬ (61440 ≤ p.sp ∧ p.sp < 61440 + 256) := fun g => hC ⟨by omega, by omega⟩
        rw [decide_eq_false hC2] at i4
        have a1 := k_add1 b 240 1 (by decide) (by omega)
        have a2 := k_add2 (b ++ beN 1 240) p.sp 2 (b.length + 1) (b.length + 1) (by simp [beN_len]) (by decide) (by simp [beN_len]; omega)
        have a3 := k_add2 (b ++ beN 1 240 ++ beN 2 p.sp) p.dp 2 (b.length + 1 + 2) (b.length + 1 + 2) (by simp [beN_len]) (by decide) (by simp [beN_len]; omega)
        have a4 := k_add2 (b ++ beN 1 240 ++ beN 2 p.sp ++ beN 2 p.dp) (sumP p) 2 (b.length + 1 + 2 + 2) (b.length + 1 + 2 + 2) (by simp [beN_len]) (by decide) (by simp [beN_len]; omega)
        refine spec_of_run ttok mixed (T0 := 576495936692290047) (ts := [.tmp 4]) 79 rfl rfl rfl rfl (by simp) rfl ?_
        conv => whnf
        repeat' (first | with_reducible apply True.intro | ((with_reducible apply GiveN.keep []); (conv => whnf)) | ((apply Same.mk rfl); (conv => whnf)) | ((apply Same.mk); (focus (simp [beN_len]; done)); (conv => whnf)) | ((first | ((with_reducible apply Wr.u64); focus omega) | ((with_reducible apply Need.mk); focus kernel_rfl) | (apply CallN.mk (i1)) | (apply CallN.mk (i3)) | (apply CallN.mk (i4)) | (apply CallN.mk (cs)) | (apply CallN.mk (a1)) | (apply CallKN.mk (a2)) | (apply CallKN.mk (a3)) | (apply CallKN.mk (a4)) | (with_reducible apply Bif.F) | ((with_reducible apply Bif.dec) <;> intro h <;> (try simp only [lns] at h) <;> (try (exfalso; omega))) | (with_reducible apply Frz.l)) <;> conv => whnf) | fail)
end Go.Fw
