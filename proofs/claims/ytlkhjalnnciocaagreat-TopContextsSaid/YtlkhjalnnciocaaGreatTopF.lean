/- Frames of the shapes that the laws of the top use: long addresses, commands or data. -/
import Derived.Test.YtlkhjalnnciocaaGreatTopT
namespace Go.Fw
open Go.Proofs
set_option maxHeartbeats 8000000
set_option maxRecDepth 8000
structure Frm where
  c : Bool
  sec : Bool
  seq : UInt8
  pan : Nat
  dst : Nat
  src : Nat
  ctr : Nat
  key : UInt8
  pay : List UInt8
  mic : List UInt8
def lnkV (e : Nat) : SV := .agg [.v (.int .i64 3), .v (.int .u16 0), .v (.int .u64 (e : Int))]
def lnk (e : Nat) : Adr := ⟨3, 0, e⟩
theorem lnk_eq (e : Nat) : adrV (lnk e) = lnkV e := rfl
def kindF (c : Bool) : Int := if c then 3 else 1
def frmS (f : Frm) (p m : SV) : SV := .agg [int (kindF f.c), bool (!f.c), bool false, bool f.sec, b8 f.seq, .v (.int .u16 (f.pan : Int)), lnkV f.dst, lnkV f.src, .v (.int .u32 (f.ctr : Int)), b8 f.key, p, m]
def bys (l : List UInt8) : SV := .fs .no 1 (lst b8 l)
def frmV (f : Frm) : SV := frmS f (bys f.pay) (bys f.mic)
def lenF (f : Frm) : Nat := 23 + f.pay.length + (if f.sec then 5 + f.mic.length else 0)
def vF (f : Frm) : Bool := decide ((if f.sec then f.mic.length = 4 else f.ctr = 0 ∧ f.key.toNat = 0 ∧ f.mic.length = 0) ∧ lenF f ≤ 127)
theorem vAdr_lnk (e : Nat) : vAdr (lnk e) = true := by simp [vAdr, lnk]
theorem k_lnkValid (e : Nat) : Con Tryz.prog 129 [lnkV e] [] (bool true) [] := by
  have := k_addrValid (lnk e)
  rwa [vAdr_lnk] at this
theorem k_isB (e : Nat) : Con Tryz.prog 130 [lnkV e] [] (bool false) [] := by
  refine spec_of_run ttok mixed (T0 := 7) (ts := [.tmp 2]) 6 rfl rfl rfl rfl (by simp) rfl ?_
  conv => whnf
  repeat' (first | with_reducible apply True.intro | ((first | (apply Same.rfl) | (with_reducible apply Frz.l)) <;> conv => whnf) | fail)
theorem k_addrB (e : Nat) : Con Tryz.prog 207 [lnkV e] [] (int 8) [] := by
  refine spec_of_run ttok mixed (T0 := 183) (ts := [.tmp 2]) 9 rfl rfl rfl rfl (by simp) rfl ?_
  conv => whnf
  repeat' (first | with_reducible apply True.intro | ((first | ((with_reducible apply Bif.beq) <;> intro h <;> (try simp only [lns] at h) <;> (try (exfalso; omega))) | (apply Same.int; focus rfl) | (with_reducible apply Frz.l)) <;> conv => whnf) | fail)
theorem k_flen (f : Frm) (hp : f.pay.length ≤ 100000) (hm : f.mic.length ≤ 100000) : Con Tryz.prog 178 [frmV f] [] (int (lenF f : Int)) [] := by
  obtain ⟨c, sec, seq, pan, dst, src, ctr, key, pay, mic⟩ := f
  dsimp only at hp hm
  have c1 := k_addrB dst
  have c2 := k_addrB src
  cases c <;> cases sec <;> simp only [frmV, frmS, kindF, lenF, Bool.not_true, Bool.not_false, if_true, if_false, Bool.false_eq_true]
  all_goals
    refine spec_of_run ttok mixed (T0 := 8390671) (ts := [.tmp 2]) 31 rfl rfl rfl rfl (by simp) rfl ?_
    conv => whnf
    repeat' (first | with_reducible apply True.intro | ((first | ((with_reducible apply Nm.mk); focus ((try simp only [lns]); exact rfl)) | ((with_reducible apply Wr.i64); focus omega) | ((with_reducible apply Need.mk); focus kernel_rfl) | (apply CallN.mk (c1)) | (apply CallN.mk (c2)) | (with_reducible first | apply Bif.T | apply Bif.F) | ((with_reducible apply Bif.bne) <;> intro h <;> (try simp only [lns] at h) <;> (try (exfalso; omega))) | (apply Same.int; focus omega) | (with_reducible apply Frz.l)) <;> conv => whnf) | fail)
theorem k_vData (f : Frm) (hp : f.pay.length ≤ 100000) (hm : f.mic.length ≤ 100000) : Con Tryz.prog 116 [frmV f] [] (bool (vF f)) [] := by
  have cl := k_flen f hp hm
  obtain ⟨c, sec, seq, pan, dst, src, ctr, key, pay, mic⟩ := f
  dsimp only at hp hm
  have c1 := k_isB dst
  have c2 := k_isB src
  have c3 := k_lnkValid dst
  have c4 := k_lnkValid src
  cases c <;> cases sec <;> simp only [frmV, frmS, kindF, lenF, vF, Bool.not_true, Bool.not_false, if_true, if_false, Bool.false_eq_true] at cl ⊢
  all_goals
    refine spec_of_run ttok mixed (T0 := 9223389697777074183) (ts := [.tmp 2]) 67 rfl rfl rfl rfl (by simp) rfl ?_
    conv => whnf
    repeat' (first | ((first | ((with_reducible apply Nm.mk); focus ((try simp only [lns]); exact rfl)) | (apply CallN.mk (c1)) | (apply CallN.mk (c2)) | (apply CallN.mk (c3)) | (apply CallN.mk (c4)) | (apply CallN.mk (cl)) | (with_reducible first | apply Bif.T | apply Bif.F) | ((with_reducible first | apply Bif.beq | apply Bif.bne) <;> intro h <;> (try simp only [lns] at h) <;> (try (exfalso; omega))) | (with_reducible apply Bif.not) | (with_reducible apply Frz.l)) <;> conv => whnf) | fail)
  all_goals (apply Same.bool (by rw [Bool.eq_iff_iff]; simp only [decide_eq_true_eq, Bool.false_eq_true, false_iff, true_iff, Bool.and_eq_true, Bool.or_eq_true, Bool.not_eq_true', decide_eq_false_iff_not, ne_eq]; omega); (conv => whnf); repeat' (first | with_reducible apply True.intro | ((with_reducible apply Frz.l) <;> conv => whnf) | fail))
end Go.Fw
