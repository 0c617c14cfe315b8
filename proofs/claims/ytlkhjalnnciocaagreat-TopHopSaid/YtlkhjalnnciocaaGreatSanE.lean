/- The sanity check's packet: contexts that are none; the forms of its addresses. -/
import Derived.Test.YtlkhjalnnciocaaGreatTopW

namespace Go.Fw
open Go.Proofs
set_option maxHeartbeats 8000000
set_option maxRecDepth 8000
def ctx0V : SV := .agg [int 0, pfxV pfx0, bool false, int 0]
theorem k_vTime (t : Int) : Con Tryz.prog 144 [int t] [] (bool (decide (isTm t))) [] := by
  refine spec_of_run ttok mixed (T0 := 5) (ts := [.tmp 2]) 9 rfl rfl rfl rfl (by simp) rfl ?_
  conv => whnf
  repeat' (first | ((first | (with_reducible first | apply Bif.T | apply Bif.F) | ((with_reducible apply Bif.dec) <;> intro h <;> (try simp only [lns] at h)) | (with_reducible apply Frz.l)) <;> conv => whnf) | fail)
  all_goals (apply Same.bool (by simp; omega); (conv => whnf); repeat' (first | with_reducible apply True.intro | ((with_reducible apply Frz.l) <;> conv => whnf) | fail))
theorem k_cValid0 : Con Tryz.prog 77 [nilV] [] (bool true) [] := by
  refine spec_of_run ttok mixed (T0 := 1074791405) (ts := [.tmp 2]) 34 rfl rfl rfl rfl (by simp) rfl ?_
  conv => whnf
  repeat' (first | ((with_reducible apply Frz.l) <;> conv => whnf) | fail)
  refine LoopN.unr 1 ttok mixed (T0 := 1074791405) ?_
  conv => whnf
  repeat' (first | with_reducible apply True.intro | ((first | ((with_reducible apply Bif.dec) <;> intro h <;> (try simp only [lns] at h) <;> (try (exfalso; omega))) | (apply Same.bool; focus (with_reducible rfl)) | (with_reducible apply Frz.l)) <;> conv => whnf) | fail)
theorem k_ForC0 (a : IP) : Con Tryz.prog 193 [nilV, ipV a, int 0] [] (.tup [ctx0V, bool false]) [] := by
  have ct := k_vTime 0
  rw [decide_eq_true (by decide)] at ct
  refine spec_of_run ttok mixed (T0 := 4505798714067927) (ts := [.cell 6 101, .tmp 7]) 57 rfl rfl rfl rfl (by simp) rfl ?_
  conv => whnf
  repeat' (first | ((first | (apply CallN.mk (k_cValid0)) | (apply CallN.mk (ct)) | (with_reducible first | apply Bif.T | apply Bif.F) | (with_reducible apply Bif.not) | (with_reducible apply Frz.l)) <;> conv => whnf) | fail)
  refine LoopN.unr 1 ttok mixed (T0 := 4505798714067927) ?_
  conv => whnf
  repeat' (first | with_reducible apply True.intro | ((apply Same.mk rfl); (conv => whnf)) | ((first | ((with_reducible apply Bif.dec) <;> intro h <;> (try simp only [lns] at h) <;> (try (exfalso; omega))) | (with_reducible apply Frz.l)) <;> conv => whnf) | fail)
theorem k_linkLocal : Con Tryz.prog 192 [] [] (pfxV llP) [] := by
  refine spec_of_run ttok mixed (T0 := 1) (ts := [.cell 0 70]) 3 rfl rfl rfl rfl (by simp) rfl ?_
  conv => whnf
  repeat' (first | with_reducible apply True.intro | ((apply Same.mk rfl); (conv => whnf)) | ((with_reducible apply Frz.l) <;> conv => whnf) | fail)
theorem ip_beq (a b : IP) : (a.1 == b.1) = decide (a = b) := by
  rw [Bool.eq_iff_iff, beq_iff_eq, decide_eq_true_eq]
  exact ⟨ip_ext, fun h => by rw [h]⟩
theorem k_within (p : Pfx) (a : IP) (v : Nat) (hp : vPfx p = true) : Con Tryz.prog 190 [pfxV p, .pb 0 [], .pb 1 []] [.cells (q64 (v : Int)), .cells (ipV a)] (bool (decide (p.bits ≤ 64 ∧ ipN p.ip v = a))) [.cells (q64 (v : Int)), .cells (ipV a)] := by
  have c := k_aJoin p v hp
  by_cases hb : p.bits ≤ 64
  · rw [if_pos hb] at c
    refine spec_of_run ttok mixed (T0 := 127) (ts := [.tmp 4]) 19 rfl rfl rfl rfl (by simp) rfl ?_
    conv => whnf
    repeat' (first | with_reducible apply True.intro | ((apply Same.bool (by rw [ip_beq, Bool.eq_iff_iff, decide_eq_true_eq, decide_eq_true_eq]; exact ⟨fun h => ⟨hb, h⟩, fun h => h.2⟩)); (conv => whnf)) | ((first | (apply CallN.mk (c)) | (with_reducible apply Bif.T) | (with_reducible apply Same.rfl) | (with_reducible apply Frz.l)) <;> conv => whnf) | fail)
  · rw [if_neg hb] at c
    refine spec_of_run ttok mixed (T0 := 127) (ts := [.tmp 4]) 19 rfl rfl rfl rfl (by simp) rfl ?_
    conv => whnf
    repeat' (first | with_reducible apply True.intro | ((apply Same.bool (by symm; rw [decide_eq_false_iff_not]; exact fun h => hb h.1)); (conv => whnf)) | ((first | (apply CallN.mk (c)) | (with_reducible apply Bif.F) | (with_reducible apply Same.rfl) | (with_reducible apply Frz.l)) <;> conv => whnf) | fail)
/-- The link-local address of a device. -/
def llA (e : Nat) : IP := ipN llP.ip (iidL e)
def fm3V : SV := .agg [bool false, int 0, int 3, nilV]
theorem k_choose3 : Con Tryz.prog 195 [int 3, nilV, .pb 0 [], .pb 1 []] [.cells (bool true), .cells ctx0V] fm3V [.cells (bool true), .cells ctx0V] := by
  refine spec_of_run ttok mixed (T0 := 207) (ts := [.cell 6 249]) 16 rfl rfl rfl rfl (by simp) rfl ?_
  conv => whnf
  repeat' (first | with_reducible apply True.intro | ((apply Same.mk rfl); (conv => whnf)) | ((first | (with_reducible apply Bif.T) | (with_reducible apply Frz.l)) <;> conv => whnf) | fail)
theorem llA_ok : ∀ e ∈ [D0, D1], loN (llA e) = iidL e ∧ (llA e).1 ≠ List.replicate 16 0 ∧ gt (llA e).1 0 ≠ 255 := by decide +kernel
theorem k_uniLL (e : Nat) (s : Bool) (he : e ∈ [D0, D1]) : Con Tryz.prog 149 [ipV (llA e), lnkV e, bool s, nilV, int 0] [] fm3V [] := by
  obtain ⟨h1, h2, h3⟩ := llA_ok e he
  have he2 : e ≤ 18446744073709551615 := by
    simp only [List.mem_cons, List.not_mem_nil, or_false] at he
    rcases he with rfl | rfl <;> decide
  have cs := k_aSplit (llA e)
  rw [h1] at cs
  have cw := k_within llP (llA e) (iidL e) llP_v
  rw [decide_eq_true (⟨by decide, rfl⟩ : llP.bits ≤ 64 ∧ ipN llP.ip (iidL e) = llA e)] at cw
  have ci := k_aIID e he2
  have hz : ((llA e).1 == List.replicate 16 0) = false := by rw [beq_eq_false_iff_ne]; exact h2
  generalize llA e = A at *
  generalize iidL e = v at *
  cases s
  all_goals
    refine spec_of_run ttok mixed (T0 := 9709185632895178773623935) (ts := [.cell 10 249]) 91 rfl rfl rfl rfl (by simp) rfl ?_
    conv => whnf
    repeat' (first | with_reducible apply True.intro | ((apply Same.mk rfl); (conv => whnf)) | ((first | (apply CallN.mk (cs)) | (apply CallN.mk (k_ForC0 _)) | (apply CallN.mk (k_linkLocal)) | (apply CallN.mk (cw)) | (apply CallN.mk (ci)) | (apply CallN.mk (k_choose3)) | (with_reducible first | apply Bif.T | apply Bif.F) | ((with_reducible apply Bif.beq) <;> intro h <;> (try simp only [lns] at h) <;> (try first | (exfalso; omega) | (exact absurd h h2))) | (with_reducible apply Bif.not) | (with_reducible apply Frz.l)) <;> conv => whnf) | fail)
    done
end Go.Fw

/- The sanity check's packet, compressed. -/
namespace Go.Fw
open Go.Proofs
set_option maxHeartbeats 8000000
set_option maxRecDepth 8000
def P0 : Pkt := ⟨0, 0, 17, 64, llA D0, llA D1, 61617, 61618, [1, 2, 3]⟩
theorem m0 : D0 ∈ [D0, D1] := by simp
theorem m1 : D1 ∈ [D0, D1] := by simp
theorem vp_P0 : VP P0 := ⟨by decide, (llA_ok D0 m0).2.2, by decide, by decide, by decide, fun h => absurd rfl h⟩
theorem k_iflag (b : Bool) (x : Int) : Con Tryz.prog 152 [bool b, int x] [] (int (if b = true then x else 0)) [] := by
  cases b
  all_goals
    refine spec_of_run ttok mixed (T0 := 51) (ts := [.tmp 4]) 7 rfl rfl rfl rfl (by simp) rfl ?_
    conv => whnf
    repeat' (first | with_reducible apply True.intro | ((first | (with_reducible first | apply Bif.T | apply Bif.F) | (apply Same.int; focus rfl) | (with_reducible apply Frz.l)) <;> conv => whnf) | fail)
theorem k_fields0 : Con Tryz.prog 148 [pktV P0] [] (.tup [int 126, nilV]) [] := by
  refine spec_of_run ttok mixed (T0 := 189293023505416447) (ts := [.tmp 2, .tmp 3]) 70 rfl rfl rfl rfl (by simp) rfl ?_
  conv => whnf
  repeat' (first | with_reducible apply True.intro | ((apply Same.mk rfl); (conv => whnf)) | ((first | ((with_reducible apply Wr.i64); focus omega) | (apply CallN.mk (k_iflag true 4)) | (with_reducible apply Bif.F) | ((with_reducible first | apply Bif.beq | apply Bif.bne) <;> intro h <;> (try simp only [lns] at h) <;> (try first | (exfalso; omega) | (exact absurd (by decide) h) | (exact absurd h (by decide)))) | (with_reducible apply Frz.l)) <;> conv => whnf) | fail)
  done
theorem k_icheck0 : Con Tryz.prog 147 [lnkV D0, lnkV D1, nilV, int 0] [] (int 0) [] := by
  have c0 := k_lnkValid D0
  have c1 := k_lnkValid D1
  refine spec_of_run ttok mixed (T0 := 136315199) (ts := [.tmp 8]) 28 rfl rfl rfl rfl (by simp) rfl ?_
  conv => whnf
  repeat' (first | with_reducible apply True.intro | ((first | (apply CallN.mk (c0)) | (apply CallN.mk (c1)) | (apply CallN.mk (k_cValid0)) | (with_reducible first | apply Bif.T | apply Bif.F) | ((with_reducible apply Bif.dec) <;> intro h <;> (try simp only [lns] at h) <;> (try (exfalso; omega))) | (with_reducible apply Bif.not) | (apply Same.int; focus rfl) | (with_reducible apply Frz.l)) <;> conv => whnf) | fail)
theorem k_iEnc0 : Con Tryz.prog 81 [pktV P0, lnkV D0, lnkV D1, nilV, int 0] [] (.tup [.ov 1 0 0 2, int 0]) [.arr none 1 (lst b8 [126, 51])] := by
  have cv := k_pValid P0 vp_P0
  have u0 := k_uniLL D0 true m0
  have u1 := k_uniLL D1 false m1
  have cm := k_aMulti (llA D1)
  rw [decide_eq_false (llA_ok D1 m1).2.2] at cm
  refine spec_of_run ttok mixed (T0 := 1237940039285450644727528703) (ts := [.tmp 10, .tmp 11]) 107 rfl rfl rfl rfl (by simp) rfl ?_
  conv => whnf
  repeat' (first | with_reducible apply True.intro | ((apply Wr.eq (y := 126) (by decide)); (conv => whnf)) | ((apply Wr.eq (y := 51) (by decide)); (conv => whnf)) | ((apply Same.mk rfl); (conv => whnf)) | ((first | ((with_reducible apply Nm.mk); focus ((try simp only [lns]); exact rfl)) | ((with_reducible apply Wr.i64); focus omega) | ((with_reducible apply Need.mk); focus first | kernel_rfl | (unfold roomOK; simp only [lns]; omega)) | (apply CallN.mk (cv)) | (apply CallN.mk (k_icheck0)) | (apply CallN.mk (k_fields0)) | (apply CallN.mk (u0)) | (apply CallN.mk (u1)) | (apply CallN.mk (cm)) | (apply CallN.mk (k_iflag false 128)) | (apply CallN.mk (k_iflag false 64)) | (apply CallN.mk (k_iflag false 8)) | (apply CallN.mk (k_iflag false 4)) | (with_reducible first | apply Bif.T | apply Bif.F) | ((with_reducible apply Bif.bne) <;> intro h <;> (try simp only [lns] at h) <;> (try (exfalso; omega))) | (with_reducible apply Bif.not) | (with_reducible first | apply Alt.l | apply Cut.l) | (with_reducible apply Frz.l)) <;> conv => whnf) | fail)
  done
end Go.Fw

/- The sanity check's packet, compressed. -/
namespace Go.Fw
open Go.Proofs
set_option maxHeartbeats 8000000
set_option maxRecDepth 8000
theorem k_inPort (p a n : Nat) (hp : p ≤ 65535) (ha : a ≤ 65535) (hn : n ≤ 65535) : Con Tryz.prog 153 [.v (.int .u16 (p : Int)), int (a : Int), int (n : Int)] [] (bool (decide (a ≤ p ∧ p < a + n))) [] := by
  refine spec_of_run ttok mixed (T0 := 71) (ts := [.tmp 6]) 19 rfl rfl rfl rfl (by simp) rfl ?_
  conv => whnf
  repeat' (first | ((first | ((with_reducible apply Wr.i64); focus omega) | (with_reducible first | apply Bif.T | apply Bif.F) | ((with_reducible apply Bif.dec) <;> intro h <;> (try simp only [lns] at h)) | (with_reducible apply Frz.l)) <;> conv => whnf) | fail)
  all_goals (apply Same.bool (by rw [Bool.eq_iff_iff]; simp; omega); (conv => whnf); repeat' (first | with_reducible apply True.intro | ((with_reducible apply Frz.l) <;> conv => whnf) | fail))
/-- One more number behind the bytes, in a box. -/
theorem k_add1 (b : List UInt8) (v n : Nat) (hn : n ≤ 8) (hb : b.length ≤ 10000) : Con Tryz.prog 154 [q64 (v : Int), int (n : Int), .pb 0 []] [.cells (bys b)] (.tup []) [.cells (.ov 1 1 0 (b.length + n)), .arr (some (b.length + n)) 1 (lst b8 (b ++ beN n v))] := by
  have c := fun t => k_Append b v n t hn (by omega)
  refine spec_of_run ttok mixed (T0 := 7) (ts := []) 9 rfl rfl rfl rfl (by simp) rfl ?_
  conv => whnf
  repeat' (first | with_reducible apply True.intro | ((apply Same.mk rfl); (conv => whnf)) | ((first | (apply CallN.mk (c _)) | (with_reducible apply Frz.l)) <;> conv => whnf) | fail)
theorem k_add2 (b : List UInt8) (v n L : Nat) (x : Nat) (hL : L = b.length) (hn : n ≤ 8) (hb : b.length ≤ 10000) : ConK Tryz.prog 154 [q64 (v : Int), int (n : Int), .pb 0 []] [.cells (.ov 1 1 0 L), .arr (some x) 1 (lst b8 b)] (.tup []) [.cells (.ov 1 2 0 (L + n)), .arr (some x) 1 (lst b8 b), .arr (some (L + n)) 1 (lst b8 (b ++ beN n v))] := by
  subst hL
  have c := fun t => k_Append b v n t hn (by omega)
  refine spec_of_runK ttok mixed (T0 := 7) (ts := []) 9 rfl rfl rfl rfl (by simp) rfl ?_
  conv => whnf
  repeat' (first | with_reducible apply True.intro | ((apply Nm.mk (nm_all rfl)); (conv => whnf)) | ((apply Same.mk rfl); (conv => whnf)) | ((first | ((with_reducible apply Need.mk); focus first | (simp only [lns]; omega) | exact CleanP.lst rfl (fun _ => rfl)) | (apply CallN.mk (c _)) | (with_reducible apply GiveN.lend) | (with_reducible apply Frz.l)) <;> conv => whnf) | fail)
/-- The compressed UDP header. -/
def half (x : Nat) : Prop := 61616 ≤ x ∧ x < 61632
def byt (x : Nat) : Prop := 61440 ≤ x ∧ x < 61696
instance (x : Nat) : Decidable (half x) := inferInstanceAs (Decidable (_ ∧ _))
instance (x : Nat) : Decidable (byt x) := inferInstanceAs (Decidable (_ ∧ _))
def udpB (p : Pkt) (s : Nat) : List UInt8 :=
  if half p.sp ∧ half p.dp then [] ++ beN 1 243 ++ beN 1 ((p.sp - 61616) * 16 + (p.dp - 61616)) ++ beN 2 s
  else if byt p.dp then [] ++ beN 1 241 ++ beN 2 p.sp ++ beN 1 (p.dp - 61440) ++ beN 2 s
  else if byt p.sp then [] ++ beN 1 242 ++ beN 1 (p.sp - 61440) ++ beN 2 p.dp ++ beN 2 s
  else [] ++ beN 1 240 ++ beN 2 p.sp ++ beN 2 p.dp ++ beN 2 s
theorem udpB_len (p : Pkt) (s : Nat) : (udpB p s).length ≤ 7 := by
  unfold udpB; split
  · simp [beN_len]
  · split
    · simp [beN_len]
    · split <;> simp [beN_len]
theorem k_appendUDP (b : List UInt8) (p : Pkt) (t : Tg) (h : VP p) (hn : p.next = 17) (hb : b.length ≤ 1000) : ∃ x, Con Tryz.prog 82 [bys b, pktV p] [] (.ov 1 0 0 (b ++ udpB p (sumP p)).length) [.arr (some x) 1 (lst b8 (b ++ udpB p (sumP p)))] := by
  obtain ⟨hs, cs⟩ := k_pSum p h hn
  have hsp := h.sp
  have hdp := h.dp
  have i1 := k_inPort p.sp 61616 16 hsp (by decide) (by decide)
  have i2 := k_inPort p.dp 61616 16 hdp (by decide) (by decide)
  have i3 := k_inPort p.dp 61440 256 hdp (by decide) (by decide)
  have i4 := k_inPort p.sp 61440 256 hsp (by decide) (by decide)
  refine ⟨(b ++ udpB p (sumP p)).length, ?_⟩
  unfold udpB
  by_cases hA : half p.sp ∧ half p.dp
  · rw [if_pos hA]
    rw [decide_eq_true (⟨by have := hA.1.1; omega, by have := hA.1.2; omega⟩ : 61616 ≤ p.sp ∧ p.sp < 61616 + 16)] at i1
    rw [decide_eq_true (⟨by have := hA.2.1; omega, by have := hA.2.2; omega⟩ : 61616 ≤ p.dp ∧ p.dp < 61616 + 16)] at i2
    have a1 := k_add1 b 243 1 (by decide) (by omega)
    have a2 := k_add2 (b ++ beN 1 243) ((p.sp - 61616) * 16 + (p.dp - 61616)) 1 (b.length + 1) (b.length + 1) (by simp [beN_len]) (by decide) (by simp [beN_len]; omega)
    have a3 := k_add2 (b ++ beN 1 243 ++ beN 1 ((p.sp - 61616) * 16 + (p.dp - 61616))) (sumP p) 2 (b.length + 1 + 1) (b.length + 1 + 1) (by simp [beN_len]) (by decide) (by simp [beN_len]; omega)
    obtain ⟨⟨q1, q2⟩, q3, q4⟩ := hA
    have e2 : ((p.sp : Int) - 61616) * 16 + (p.dp : Int) - 61616 = (((p.sp - 61616) * 16 + (p.dp - 61616) : Nat) : Int) := by omega
    rw [← e2] at a2
    refine spec_of_run ttok mixed (T0 := 576495936692290047) (ts := [.tmp 4]) 79 rfl rfl rfl rfl (by simp) rfl ?_
    conv => whnf
    repeat' (first | with_reducible apply True.intro | ((with_reducible apply GiveN.keep []); (conv => whnf)) | ((apply Same.mk rfl); (conv => whnf)) | ((apply Same.mk); (focus (simp [beN_len]; done)); (conv => whnf)) | ((first | ((with_reducible apply Wr.u64); focus omega) | ((with_reducible apply Need.mk); focus kernel_rfl) | (apply CallN.mk (i1)) | (apply CallN.mk (i2)) | (apply CallN.mk (cs)) | (apply CallN.mk (a1)) | (apply CallKN.mk (a2)) | (apply CallKN.mk (a3)) | (with_reducible apply Bif.T) | (with_reducible apply Frz.l)) <;> conv => whnf) | fail)
  · rw [if_neg hA]
    have hA2 : ¬ ((61616 ≤ p.sp ∧ p.sp < 61616 + 16) ∧ (61616 ≤ p.dp ∧ p.dp < 61616 + 16)) := fun g => hA ⟨⟨by omega, by omega⟩, ⟨by omega, by omega⟩⟩
    by_cases hB : byt p.dp
    · rw [if_pos hB]
      obtain ⟨q3, q4⟩ := hB
      rw [decide_eq_true (⟨by omega, by omega⟩ : 61440 ≤ p.dp ∧ p.dp < 61440 + 256)] at i3
      have a1 := k_add1 b 241 1 (by decide) (by omega)
      have a2 := k_add2 (b ++ beN 1 241) p.sp 2 (b.length + 1) (b.length + 1) (by simp [beN_len]) (by decide) (by simp [beN_len]; omega)
      have a3 := k_add2 (b ++ beN 1 241 ++ beN 2 p.sp) (p.dp - 61440) 1 (b.length + 1 + 2) (b.length + 1 + 2) (by simp [beN_len]) (by decide) (by simp [beN_len]; omega)
      have a4 := k_add2 (b ++ beN 1 241 ++ beN 2 p.sp ++ beN 1 (p.dp - 61440)) (sumP p) 2 (b.length + 1 + 2 + 1) (b.length + 1 + 2 + 1) (by simp [beN_len]) (by decide) (by simp [beN_len]; omega)
      have e2 : (p.dp : Int) - 61440 = ((p.dp - 61440 : Nat) : Int) := by omega
      rw [← e2] at a3
      refine spec_of_run ttok mixed (T0 := 576495936692290047) (ts := [.tmp 4]) 79 rfl rfl rfl rfl (by simp) rfl ?_
      conv => whnf
      repeat' (first | with_reducible apply True.intro | ((with_reducible apply GiveN.keep []); (conv => whnf)) | ((apply Same.mk rfl); (conv => whnf)) | ((apply Same.mk); (focus (simp [beN_len]; done)); (conv => whnf)) | ((first | ((with_reducible apply Wr.u64); focus omega) | ((with_reducible apply Need.mk); focus kernel_rfl) | (apply CallN.mk (i1)) | (apply CallN.mk (i2)) | (apply CallN.mk (i3)) | (apply CallN.mk (cs)) | (apply CallN.mk (a1)) | (apply CallKN.mk (a2)) | (apply CallKN.mk (a3)) | (apply CallKN.mk (a4)) | (with_reducible first | apply Bif.T | apply Bif.F) | ((with_reducible apply Bif.dec) <;> intro h <;> (try simp only [lns] at h) <;> (try (exfalso; omega))) | (with_reducible apply Frz.l)) <;> conv => whnf) | fail)
    · rw [if_neg hB]
      have hB2 : ¬ (61440 ≤ p.dp ∧ p.dp < 61440 + 256) := fun g => hB ⟨by omega, by omega⟩
      rw [decide_eq_false hB2] at i3
      by_cases hC : byt p.sp
      · rw [if_pos hC]
        obtain ⟨q3, q4⟩ := hC
        rw [decide_eq_true (⟨by omega, by omega⟩ : 61440 ≤ p.sp ∧ p.sp < 61440 + 256)] at i4
        have a1 := k_add1 b 242 1 (by decide) (by omega)
        have a2 := k_add2 (b ++ beN 1 242) (p.sp - 61440) 1 (b.length + 1) (b.length + 1) (by simp [beN_len]) (by decide) (by simp [beN_len]; omega)
        have a3 := k_add2 (b ++ beN 1 242 ++ beN 1 (p.sp - 61440)) p.dp 2 (b.length + 1 + 1) (b.length + 1 + 1) (by simp [beN_len]) (by decide) (by simp [beN_len]; omega)
        have a4 := k_add2 (b ++ beN 1 242 ++ beN 1 (p.sp - 61440) ++ beN 2 p.dp) (sumP p) 2 (b.length + 1 + 1 + 2) (b.length + 1 + 1 + 2) (by simp [beN_len]) (by decide) (by simp [beN_len]; omega)
        have e2 : (p.sp : Int) - 61440 = ((p.sp - 61440 : Nat) : Int) := by omega
        rw [← e2] at a2
        refine spec_of_run ttok mixed (T0 := 576495936692290047) (ts := [.tmp 4]) 79 rfl rfl rfl rfl (by simp) rfl ?_
        conv => whnf
        repeat' (first | with_reducible apply True.intro | ((with_reducible apply GiveN.keep []); (conv => whnf)) | ((apply Same.mk rfl); (conv => whnf)) | ((apply Same.mk); (focus (simp [beN_len]; done)); (conv => whnf)) | ((first | ((with_reducible apply Wr.u64); focus omega) | ((with_reducible apply Need.mk); focus kernel_rfl) | (apply CallN.mk (i1)) | (apply CallN.mk (i2)) | (apply CallN.mk (i3)) | (apply CallN.mk (i4)) | (apply CallN.mk (cs)) | (apply CallN.mk (a1)) | (apply CallKN.mk (a2)) | (apply CallKN.mk (a3)) | (apply CallKN.mk (a4)) | (with_reducible first | apply Bif.T | apply Bif.F) | ((with_reducible apply Bif.dec) <;> intro h <;> (try simp only [lns] at h) <;> (try (exfalso; omega))) | (with_reducible apply Frz.l)) <;> conv => whnf) | fail)
      · rw [if_neg hC]
        have hC2 : ¬ (61440 ≤ p.sp ∧ p.sp < 61440 + 256) := fun g => hC ⟨by omega, by omega⟩
        rw [decide_eq_false hC2] at i4
        have a1 := k_add1 b 240 1 (by decide) (by omega)
        have a2 := k_add2 (b ++ beN 1 240) p.sp 2 (b.length + 1) (b.length + 1) (by simp [beN_len]) (by decide) (by simp [beN_len]; omega)
        have a3 := k_add2 (b ++ beN 1 240 ++ beN 2 p.sp) p.dp 2 (b.length + 1 + 2) (b.length + 1 + 2) (by simp [beN_len]) (by decide) (by simp [beN_len]; omega)
        have a4 := k_add2 (b ++ beN 1 240 ++ beN 2 p.sp ++ beN 2 p.dp) (sumP p) 2 (b.length + 1 + 2 + 2) (b.length + 1 + 2 + 2) (by simp [beN_len]) (by decide) (by simp [beN_len]; omega)
        refine spec_of_run ttok mixed (T0 := 576495936692290047) (ts := [.tmp 4]) 79 rfl rfl rfl rfl (by simp) rfl ?_
        conv => whnf
        repeat' (first | with_reducible apply True.intro | ((with_reducible apply GiveN.keep []); (conv => whnf)) | ((apply Same.mk rfl); (conv => whnf)) | ((apply Same.mk); (focus (simp [beN_len]; done)); (conv => whnf)) | ((first | ((with_reducible apply Wr.u64); focus omega) | ((with_reducible apply Need.mk); focus kernel_rfl) | (apply CallN.mk (i1)) | (apply CallN.mk (i3)) | (apply CallN.mk (i4)) | (apply CallN.mk (cs)) | (apply CallN.mk (a1)) | (apply CallKN.mk (a2)) | (apply CallKN.mk (a3)) | (apply CallKN.mk (a4)) | (with_reducible apply Bif.F) | ((with_reducible apply Bif.dec) <;> intro h <;> (try simp only [lns] at h) <;> (try (exfalso; omega))) | (with_reducible apply Frz.l)) <;> conv => whnf) | fail)
end Go.Fw

/- The sanity check's packet: local, compress.Encode. -/
namespace Go.Fw
open Go.Proofs
set_option maxHeartbeats 8000000
set_option maxRecDepth 8000
theorem k_local : Con Tryz.prog 47 [int 0, int 1, .ov 1 0 0 3] [.arr (some 3) 1 (lst b8 [1, 2, 3])] (pktS P0 (.ov 1 0 0 3)) [.arr (some 3) 1 (lst b8 [1, 2, 3])] := by
  have c0 := k_device 0 (by decide)
  have c1 := k_device 1 (by decide)
  have l0 := k_LinkLocal (144115188075855873 + 0) (by decide)
  have l1 := k_LinkLocal (144115188075855873 + 1) (by decide)
  refine spec_of_run ttok mixed (T0 := 711) (ts := [.cell 6 107]) 27 rfl rfl rfl rfl (by simp) rfl ?_
  conv => whnf
  repeat' (first | with_reducible apply True.intro | ((apply Same.mk rfl); (conv => whnf)) | ((first | (apply CallN.mk (c0)) | (apply CallN.mk (c1)) | (apply CallN.mk (l0)) | (apply CallN.mk (l1)) | (with_reducible apply Frz.l)) <;> conv => whnf) | fail)
  done
noncomputable def cmp0 : List UInt8 := [126, 51] ++ udpB P0 (sumP P0) ++ [1, 2, 3]
theorem k_cEnc0O : Con Tryz.prog 35 [pktV P0, lnkV D0, lnkV D1, nilV, int 0] [] (.tup [.ov 1 0 0 cmp0.length, int 0]) [.arr none 1 (lst b8 cmp0)] := by
  obtain ⟨x, ca⟩ := k_appendUDP [126, 51] P0 .no vp_P0 rfl (by decide)
  have hl := udpB_len P0 (sumP P0)
  have e : cmp0 = ([126, 51] ++ udpB P0 (sumP P0)) ++ [1, 2, 3] := rfl
  rw [e]
  have hu : ([126, 51] ++ udpB P0 (sumP P0)).length ≤ 9 := by simp; omega
  have hpl : P0.pay.length = 3 := rfl
  generalize [126, 51] ++ udpB P0 (sumP P0) = u at *
  refine spec_of_run ttok mixed (T0 := 285228287) (ts := [.tmp 10, .tmp 11]) 36 rfl rfl rfl rfl (by simp) rfl ?_
  conv => whnf
  repeat' (first | with_reducible apply True.intro | ((apply Nm.mk (nm_all (f := b8) (l := [126, 51]) rfl)); (conv => whnf)) | ((with_reducible apply Nm.mk (lst_app _ _)); (conv => whnf)) | ((apply Same.mk rfl); (conv => whnf)) | ((apply Same.mk); (focus (simp; done)); (conv => whnf)) | ((first | ((with_reducible apply Nm.mk); focus ((try simp only [lns, hpl]); exact rfl)) | ((with_reducible apply Need.mk); focus first | (simp only [lns, hpl]; omega) | exact CleanP.lst rfl (fun _ => rfl) | (unfold roomOK; simp only [lns, hpl]; omega)) | (apply CallN.mk (k_iEnc0)) | (apply CallN.mk (ca)) | ((with_reducible first | apply Bif.beq | apply Bif.bne) <;> intro h <;> (try simp only [lns, hpl] at h) <;> (try first | (exfalso; omega) | (exact absurd rfl h))) | (with_reducible first | apply Alt.l | apply Cut.l | apply GiveN.lend) | (with_reducible apply Frz.l)) <;> conv => whnf) | fail)
  done
theorem k_cEnc0 : Con Tryz.prog 35 [pktV P0, lnkV D0, lnkV D1, nilV, int 0] [] (.tup [bys cmp0, int 0]) [] :=
  k_cEnc0O.cl (.tup (.cons (.all rfl rfl) (.cons (.wk rfl .rfl) .nil))) rfl
end Go.Fw

/- The sanity check's packet, read again. -/
namespace Go.Fw
open Go.Proofs
set_option maxHeartbeats 8000000
set_option maxRecDepth 8000
def rdV (b : List UInt8) (at_ : Nat) : SV := .agg [bys b, int (at_ : Int)]
theorem k_rnum (b : List UInt8) (at_ n : Nat) (h : 1 ≤ n ∧ n ≤ 8) (hb : b.length ≤ 10000) (ha : at_ + n ≤ b.length) :
    Con Tryz.prog 199 [.pb 0 [], int (n : Int)] [.cells (rdV b at_)] (.tup [q64 (beV ((b.drop at_).take n) : Int), int 0]) [.cells (rdV b (at_ + n))] := by
  have c := fun t => k_Uint b at_ n t (by omega) (by omega) (by omega)
  rw [uintM, if_pos (by omega), Int.toNat_natCast, Int.toNat_natCast] at c
  refine spec_of_run ttok mixed (T0 := 4194547) (ts := [.tmp 4, .tmp 5]) 32 rfl rfl rfl rfl (by simp) rfl ?_
  conv => whnf
  repeat' (first | with_reducible apply True.intro | ((apply Same.mk rfl); (conv => whnf)) | ((first | ((with_reducible apply Wr.i64); focus omega) | ((with_reducible apply Need.mk); focus kernel_rfl) | (apply CallN.mk (c _)) | (with_reducible apply Bif.T) | (with_reducible apply Bif.not) | (with_reducible apply Frz.l)) <;> conv => whnf) | fail)
theorem k_start0 (r : List UInt8) (hr : r.length ≤ 5000) : Con Tryz.prog 157 [.pb 0 []] [.cells (rdV (126 :: 51 :: r) 0)] (.tup [int 126, int 51, int 0, int 0]) [.cells (rdV (126 :: 51 :: r) 2)] := by
  have c1 := k_rnum (126 :: 51 :: r) 0 1 (by decide) (by simp; omega) (by simp)
  have c2 := k_rnum (126 :: 51 :: r) 1 1 (by decide) (by simp; omega) (by simp)
  refine spec_of_run ttok mixed (T0 := 2326109211865449469) (ts := [.tmp 2, .tmp 3, .tmp 4, .tmp 5]) 68 rfl rfl rfl rfl (by simp) rfl ?_
  conv => whnf
  repeat' (first | with_reducible apply True.intro | ((apply Wr.eq (y := 126) rfl); (conv => whnf)) | ((apply Wr.eq (y := 51) rfl); (conv => whnf)) | ((apply Same.mk rfl); (conv => whnf)) | ((first | (apply CallN.mk (c1)) | (apply CallN.mk (c2)) | (with_reducible apply Bif.F) | ((with_reducible first | apply Bif.dec | apply Bif.bne) <;> intro h <;> (try simp only [lns] at h) <;> (try first | (exfalso; omega) | (exact absurd (by decide) h))) | (with_reducible apply Frz.l)) <;> conv => whnf) | fail)
  done
theorem k_find0 (id : Int) (now : Int) : Con Tryz.prog 159 [int id, .pb 0 [], .pb 1 []] [.cells nilV, .cells (int now)] (.clo 160 [.pb 0 [], .pb 2 [], .pb 1 []]) [.cells nilV, .cells (int now), .cells (int id)] := by
  refine spec_of_run ttok mixed (T0 := 31) (ts := [.tmp 4]) 6 rfl rfl rfl rfl (by simp) rfl ?_
  conv => whnf
  repeat' (first | with_reducible apply True.intro | ((apply Same.mk rfl); (conv => whnf)) | ((with_reducible apply Frz.l) <;> conv => whnf) | fail)
  done
theorem k_rUni3 (e : Nat) (he : e ≤ 18446744073709551615) (b : List UInt8) (at_ : Nat) (id : Int) : Con Tryz.prog 162 [.pb 0 [], bool false, int 3, lnkV e, .clo 160 [.pb 1 [], .pb 2 [], .pb 3 []]]
    [.cells (rdV b at_), .cells nilV, .cells (int id), .cells (int 0)] (.tup [ipV (llA e), int 0]) [.cells (rdV b at_), .cells nilV, .cells (int id), .cells (int 0)] := by
  have ci := k_aIID e he
  have cj := k_aJoin llP (iidL e) llP_v
  rw [if_pos (by decide)] at cj
  have cm := k_aMulti (ipN llP.ip (iidL e))
  have h0 : gt (ipN llP.ip (iidL e)).1 0 ≠ 255 := by
    have : gt (ipN llP.ip (iidL e)).1 0 = 254 := rfl
    rw [this]; decide
  rw [decide_eq_false h0] at cm
  refine spec_of_run ttok mixed (T0 := 38846195984377904124919071) (ts := [.cell 10 67, .tmp 11]) 88 rfl rfl rfl rfl (by simp) rfl ?_
  conv => whnf
  repeat' (first | with_reducible apply True.intro | ((apply Same.mk rfl); (conv => whnf)) | ((first | (apply CallN.mk (ci)) | (apply CallN.mk (cj)) | (apply CallN.mk (cm)) | (apply CallN.mk (k_linkLocal)) | (with_reducible first | apply Bif.T | apply Bif.F) | ((with_reducible first | apply Bif.beq | apply Bif.bne) <;> intro h <;> (try simp only [lns] at h) <;> (try (exfalso; omega))) | (with_reducible apply Bif.not) | (with_reducible apply Frz.l)) <;> conv => whnf) | fail)
  done
theorem k_takeNo (n x : Int) (b : List UInt8) (at_ : Nat) : ConK Tryz.prog 200 [bool false, int n, q64 x, .pb 0 [], .pb 1 []] [.cells (int 0), .cells (.pb 2 []), .cells (rdV b at_)] (q64 x) [.cells (int 0), .cells (.pb 2 []), .cells (rdV b at_)] := by
  refine spec_of_runK ttok mixed (T0 := 67359) (ts := [.tmp 8]) 26 rfl rfl rfl rfl (by simp) rfl ?_
  conv => whnf
  repeat' (first | with_reducible apply True.intro | ((apply Same.mk rfl); (conv => whnf)) | ((first | (with_reducible first | apply Bif.T | apply Bif.F) | (with_reducible apply Bif.not) | (with_reducible apply Frz.l)) <;> conv => whnf) | fail)
  done
def q0V : SV := .agg [.v (.int .u8 0), .v (.int .u32 0), .v (.int .u8 17), .v (.int .u8 64), ipV ip0, ipV ip0, .v (.int .u16 0), .v (.int .u16 0), nilV]
theorem k_rfields0 (b : List UInt8) (at_ : Nat) : Con Tryz.prog 158 [.pb 0 [], int 126] [.cells (rdV b at_)] (.tup [q0V, int 0]) [.cells (rdV b at_)] := by
  have c := fun n x => k_takeNo n x b at_
  refine spec_of_run ttok mixed (T0 := 37788155270178388582391) (ts := [.cell 4 107, .tmp 5]) 79 rfl rfl rfl rfl (by simp) rfl ?_
  conv => whnf
  repeat' (first | with_reducible apply True.intro | ((with_reducible apply GiveN.keep []); (conv => whnf)) | ((apply Elem.mk _ rfl); (conv => whnf)) | ((apply Need.mk (by decide)); (conv => whnf)) | ((apply Same.mk rfl); (conv => whnf)) | ((first | ((with_reducible apply Nm.mk); focus ((try simp only [lns]); exact rfl)) | ((with_reducible first | apply Wr.u8 | apply Wr.u32); focus omega) | (apply CallKN.mk (c _ _)) | (with_reducible first | apply Bif.T | apply Bif.F) | ((with_reducible first | apply Bif.dec | apply Bif.beq | apply Bif.bne) <;> intro h <;> (try simp only [lns] at h) <;> (try first | (exfalso; omega) | (exact absurd h (by decide)))) | (with_reducible apply Frz.l)) <;> conv => whnf) | fail)
  done
end Go.Fw
