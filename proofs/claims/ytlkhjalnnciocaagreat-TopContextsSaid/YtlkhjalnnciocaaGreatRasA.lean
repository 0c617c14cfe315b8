/- Reassembly: small functions. -/
import Derived.Test.YtlkhjalnnciocaaGreatRasP
import Derived.Lib.Bytes
namespace Go.Fw
set_option maxRecDepth 4000
open Go.Proofs
set_option maxHeartbeats 4000000
theorem adr_iff {a b : Adr} : a = b ↔ a.mode = b.mode ∧ a.short = b.short ∧ a.eui = b.eui := ⟨fun h => by subst h; simp, fun ⟨h1, h2, h3⟩ => adr_ext h1 h2 h3⟩
theorem k_addrValid (a : Adr) : Con Tryz.prog 129 [adrV a] [] (bool (vAdr a)) [] := by
  refine spec_of_run ttok mixed (T0 := 33847) (ts := [.tmp 2]) 20 rfl rfl rfl rfl (by simp) rfl ?_
  conv => whnf
  repeat' (first | ((first | ((with_reducible apply Bif.beq) <;> intro h <;> (try simp only [lns] at h)) | (with_reducible apply Frz.l)) <;> conv => whnf) | fail)
  all_goals (apply Same.bool (by rw [Bool.eq_iff_iff]; simp [vAdr] <;> omega); (conv => whnf); repeat' (first | with_reducible apply True.intro | ((with_reducible apply Frz.l) <;> conv => whnf) | fail))
theorem k_place (a : Adr) : Con Tryz.prog 97 [adrV a] [] (bool (someA a)) [] := by
  refine spec_of_run ttok mixed (T0 := 7) (ts := [.tmp 2]) 10 rfl rfl rfl rfl (by simp) rfl ?_
  conv => whnf
  repeat' (first | ((first | (apply CallN.mk (k_addrValid _)) | (with_reducible first | apply Bif.T | apply Bif.F) | ((with_reducible apply Bif.mk) <;> intro h) | (with_reducible apply Frz.l)) <;> conv => whnf) | fail)
  all_goals (apply Same.bool (by rw [Bool.eq_iff_iff]; simp_all [someA]); (conv => whnf); repeat' (first | with_reducible apply True.intro | ((with_reducible apply Frz.l) <;> conv => whnf) | fail))
theorem k_rtime (t : Int) : Con Tryz.prog 172 [int t] [] (bool (decide (isTm t))) [] := by
  refine spec_of_run ttok mixed (T0 := 5) (ts := [.tmp 2]) 9 rfl rfl rfl rfl (by simp) rfl ?_
  conv => whnf
  repeat' (first | ((first | (with_reducible first | apply Bif.T | apply Bif.F) | ((with_reducible apply Bif.dec) <;> intro h <;> (try simp only [lns] at h)) | (with_reducible apply Frz.l)) <;> conv => whnf) | fail)
  all_goals (apply Same.bool (by simp; omega); (conv => whnf); repeat' (first | with_reducible apply True.intro | ((with_reducible apply Frz.l) <;> conv => whnf) | fail))
theorem k_refaddrValid (a : Adr) : Con Tryz.prog 145 [adrV a] [] (bool (vAdr a)) [] := by
  refine spec_of_run ttok mixed (T0 := 1081399) (ts := [.tmp 2]) 25 rfl rfl rfl rfl (by simp) rfl ?_
  conv => whnf
  repeat' (first | ((first | (with_reducible first | apply Bif.T | apply Bif.F) | ((with_reducible apply Bif.beq) <;> intro h <;> (try simp only [lns] at h)) | (with_reducible apply Frz.l)) <;> conv => whnf) | fail)
  all_goals (apply Same.bool (by rw [Bool.eq_iff_iff]; simp [vAdr] <;> omega); (conv => whnf); repeat' (first | with_reducible apply True.intro | ((with_reducible apply Frz.l) <;> conv => whnf) | fail))
theorem k_refSome (a : Adr) : Con Tryz.prog 78 [adrV a] [] (bool (someA a)) [] := by
  refine spec_of_run ttok mixed (T0 := 7) (ts := [.tmp 2]) 10 rfl rfl rfl rfl (by simp) rfl ?_
  conv => whnf
  repeat' (first | ((first | (apply CallN.mk (k_refaddrValid _)) | (with_reducible first | apply Bif.T | apply Bif.F) | ((with_reducible apply Bif.mk) <;> intro h) | (with_reducible apply Frz.l)) <;> conv => whnf) | fail)
  all_goals (apply Same.bool (by rw [Bool.eq_iff_iff]; simp_all [someA]); (conv => whnf); repeat' (first | with_reducible apply True.intro | ((with_reducible apply Frz.l) <;> conv => whnf) | fail))
/-- A fragment, its bytes in a slice of which something is known. -/
abbrev frgT (t : Tg) (f : Frg) : SV := .agg [int f.size, .v (.int .u16 f.tag), int f.off, .fs t 1 (lst b8 f.data)]
theorem k_fValid (f : Frg) (t : Tg) (hl : f.data.length ≤ 9223372036854775807) : Con Tryz.prog 95 [frgT t f] [] (bool (okF f)) [] := by
  refine spec_of_run ttok mixed (T0 := 35184908959759) (ts := [.tmp 2]) 58 rfl rfl rfl rfl (by simp) rfl ?_
  conv => whnf
  repeat' (first | ((first | ((with_reducible apply Nm.mk); focus ((try simp only [lns]); exact rfl)) | ((with_reducible apply Wr.i64); focus omega) | ((with_reducible apply Need.mk); focus omega) | (with_reducible first | apply Bif.T | apply Bif.F) | ((with_reducible first | apply Bif.dec | apply Bif.beq | apply Bif.bne) <;> intro h <;> (try simp only [lns] at h)) | (with_reducible apply Frz.l)) <;> conv => whnf) | fail)
  all_goals (apply Same.bool (by rw [Bool.eq_iff_iff, okF_iff]; simp; omega); (conv => whnf); repeat' (first | with_reducible apply True.intro | ((with_reducible apply Frz.l) <;> conv => whnf) | fail))
theorem k_end (f : Frg) (t : Tg) (h : -1000000 ≤ f.off ∧ f.off ≤ 1000000) (hl : f.data.length ≤ 1000000) : Con Tryz.prog 173 [frgT t f] [] (int (fEnd f)) [] := by
  refine spec_of_run ttok mixed (T0 := 7) (ts := [.tmp 2]) 9 rfl rfl rfl rfl (by simp) rfl ?_
  conv => whnf
  repeat' (first | with_reducible apply True.intro | ((first | ((with_reducible apply Nm.mk); focus ((try simp only [lns]); exact rfl)) | ((with_reducible apply Wr.i64); focus omega) | (apply Same.int; focus rfl) | (with_reducible apply Frz.l)) <;> conv => whnf) | fail)
/-! ### Bytes -/
theorem b8_rows (l : List UInt8) : lst b8 l = bytesRows (l.map fun x => (x.toNat : Int)) := by simp [lst, bytesRows, b8]
theorem b8_nums (l : List UInt8) : Lib.bytesOf (l.map fun x => (x.toNat : Int)) = l := by
  unfold Lib.bytesOf
  rw [List.map_map]
  exact List.map_id'' (fun x => by simp) l
theorem b8_same (a b : List UInt8) : ((strOfNums (a.map fun x => (x.toNat : Int))).toList == (strOfNums (b.map fun x => (x.toNat : Int))).toList) = decide (a = b) := by
  rw [Lib.strOfNums_toList, Lib.strOfNums_toList, b8_nums, b8_nums, Bool.eq_iff_iff]
  simp
theorem b8_inj {x y : UInt8} (h : (x.toNat : Int) = y.toNat) : x = y := UInt8.toNat_inj.1 (by omega)
theorem k_bytesEqual (a b : List UInt8) (t1 t2 : Tg) : Con Tryz.prog 60 [.fs t1 1 (lst b8 a), .fs t2 1 (lst b8 b)] [] (bool (decide (a = b))) [] := by
  refine spec_of_run ttok mixed (T0 := 19) (ts := [.tmp 4]) 10 rfl rfl rfl rfl (by simp) rfl ?_
  conv => whnf
  repeat' (first | with_reducible apply True.intro | ((apply Byt.mk _ (b8_rows _)); (conv => whnf)) | ((apply Same.bool (b8_same a b)); (conv => whnf)) | ((with_reducible apply Frz.l) <;> conv => whnf) | fail)
theorem k_octSame (a b : List UInt8) (t1 t2 : Tg) (hl : a.length ≤ 9223372036854775807) : Con Tryz.prog 38 [.fs t1 1 (lst b8 a), .fs t2 1 (lst b8 b)] [] (bool (decide (a = b))) [] := by
  refine spec_of_run ttok mixed (T0 := 33571891) (ts := [.tmp 4]) 26 rfl rfl rfl rfl (by simp) rfl ?_
  conv => whnf
  by_cases hn : a.length = b.length
  · repeat' (first | ((first | ((with_reducible apply Nm.mk); focus ((try simp only [lns]); exact rfl)) | ((with_reducible apply Bif.bne) <;> intro h <;> (try simp only [lns] at h) <;> (try (exfalso; omega))) | (with_reducible apply Frz.l)) <;> conv => whnf) | fail)
    refine loop_keep ttok mixed (T0 := 33571891) [0, 1] (ι := {k : Nat // k ≤ a.length ∧ ∀ i, i < k → gt a i = gt b i})
      (fun k => [(5, int (k.1 : Int))]) (fun _ => []) (fun k => a.length - k.1) ⟨0, by omega, none_lt⟩ ?_
    conv => whnf
    repeat' (first | ((first | (with_reducible apply Same.rfl) | (apply Same.int; focus rfl) | (with_reducible apply Frz.l)) <;> conv => whnf) | fail)
    rintro ⟨k, hk, he⟩
    dsimp only
    conv => whnf
    repeat' (first | ((first | ((with_reducible apply Nm.mk); focus ((try simp only [lns]); exact rfl)) | ((with_reducible apply Wr.i64); focus omega) | ((with_reducible apply Need.mk); focus first | (simp only [lns]; omega) | kernel_rfl) | ((with_reducible apply Elem.lst); focus omega) | ((with_reducible first | apply Bif.dec | apply Bif.bne) <;> intro h <;> (try simp only [lns] at h)) | (with_reducible apply Frz.l)) <;> conv => whnf) | fail)
    · apply Same.bool (show false = _ by symm; rw [decide_eq_false_iff_not]; intro e; subst e; exact h rfl)
      conv => whnf
      repeat' (first | with_reducible apply True.intro | ((with_reducible apply Frz.l) <;> conv => whnf) | fail)
    · (refine ⟨⟨k + 1, by omega, step_lt he (b8_inj h)⟩, ?_⟩; (try dsimp only); conv => whnf); repeat' (first | with_reducible apply True.intro | ((first | ((with_reducible apply Need.mk); focus omega) | (with_reducible apply Same.rfl) | (apply Same.int; focus rfl) | (with_reducible apply Turn.l) | (with_reducible apply Frz.l)) <;> conv => whnf) | fail)
    · apply Same.bool (show true = _ by symm; rw [decide_eq_true_eq]; exact ext_gt hn fun i hi => he i (by omega))
      conv => whnf
      repeat' (first | with_reducible apply True.intro | ((with_reducible apply Frz.l) <;> conv => whnf) | fail)
  · repeat' (first | ((first | ((with_reducible apply Nm.mk); focus ((try simp only [lns]); exact rfl)) | ((with_reducible apply Bif.bne) <;> intro h <;> (try simp only [lns] at h) <;> (try (exfalso; omega))) | (with_reducible apply Frz.l)) <;> conv => whnf) | fail)
    apply Same.bool (show false = _ by symm; rw [decide_eq_false_iff_not]; intro h; rw [h] at hn; exact hn rfl)
    conv => whnf
    repeat' (first | with_reducible apply True.intro | ((with_reducible apply Frz.l) <;> conv => whnf) | fail)
theorem frg_iff {a b : Frg} : a = b ↔ a.size = b.size ∧ a.tag = b.tag ∧ a.off = b.off ∧ a.data = b.data := by
  constructor
  · intro h; subst h; simp
  · intro h; cases a; cases b; simp_all
/-- In range. -/
abbrev rngF (f : Frg) : Prop := (-1000000 ≤ f.off ∧ f.off ≤ 1000000) ∧ f.data.length ≤ 1000000
theorem okF.rng {f : Frg} (h : okF f = true) : rngF f := by have := okF_iff.1 h; exact ⟨by omega, by omega⟩
theorem ovl_iff {a b : Frg} : ovl a b = true ↔ a.off < b.off + b.data.length ∧ b.off < a.off + a.data.length := by
  rw [ovl, decide_eq_true_eq]; exact Iff.rfl
/-- A buffer, its parts in a slice of which something is known. -/
abbrev bufT (t : Tg) (b : Buf) (rows : List SV) : SV := .agg [adrV b.src, adrV b.dst, .v (.int .u16 b.tag), int b.size, .fs t 4 rows, int b.upto]
theorem adr_eq' (a b : Adr) : (a.mode == b.mode && (a.short == b.short && (a.eui == b.eui && true))) = true ↔ a = b := by rw [adr_eq, decide_eq_true_eq]
theorem k_matches (b : Buf) (t : Tg) (rows : List SV) (s d : Adr) (g z : Int) : Con Tryz.prog 103 [bufT t b rows, adrV s, adrV d, .v (.int .u16 g), int z] [] (bool (decide (b.src = s ∧ b.dst = d ∧ b.tag = g ∧ b.size = z))) [] := by
  refine spec_of_run ttok mixed (T0 := 1279) (ts := [.tmp 10]) 33 rfl rfl rfl rfl (by simp) rfl ?_
  conv => whnf
  repeat' (first | ((apply Bif.of (adr_eq _ _)); (conv => whnf)) | ((first | (with_reducible first | apply Bif.T | apply Bif.F) | ((with_reducible first | apply Bif.dec | apply Bif.beq) <;> intro h <;> (try simp only [lns] at h)) | (with_reducible apply Frz.l)) <;> conv => whnf) | fail)
  all_goals (apply Same.bool (by rw [Bool.eq_iff_iff]; simp_all); (conv => whnf); repeat' (first | with_reducible apply True.intro | ((with_reducible apply Frz.l) <;> conv => whnf) | fail))
end Go.Fw
