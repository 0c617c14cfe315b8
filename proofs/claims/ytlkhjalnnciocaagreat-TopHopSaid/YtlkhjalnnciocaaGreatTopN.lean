/- Guards: Seal, Open, Challenge, Respond, Restart. -/
import Derived.Test.YtlkhjalnnciocaaGreatTopJ

namespace Go.Fw
open Go.Proofs
set_option maxHeartbeats 8000000
set_option maxRecDepth 8000
theorem k_cloneK : Con Tryz.prog 49 [keysV] [] (.ov 17 0 0 1) [.arr none 17 [lk1V]] := by
  refine spec_of_run ttok mixed (T0 := 5) (ts := [.tmp 2]) 5 rfl rfl rfl rfl (by simp) rfl ?_
  conv => whnf
  repeat' (first | with_reducible apply True.intro | ((apply Need.mk (by constructor <;> decide)); (conv => whnf)) | ((first | ((with_reducible apply Nm.mk); focus ((try simp only [lns]); exact rfl)) | (with_reducible apply Same.rfl) | (with_reducible apply Cut.l) | (with_reducible apply Frz.l)) <;> conv => whnf) | fail)
theorem k_cloneP (l : List Pr) (t : Tg) (h : l.length ≤ 1) : Con Tryz.prog 120 [.fs t 6 (lst prV l)] [] (.ov 6 0 0 l.length) [.arr none 6 (lst prV l)] := by
  refine spec_of_run ttok mixed (T0 := 5) (ts := [.tmp 2]) 5 rfl rfl rfl rfl (by simp) rfl ?_
  conv => whnf
  repeat' (first | with_reducible apply True.intro | ((first | ((with_reducible apply Nm.mk); focus ((try simp only [lns]); exact rfl)) | ((with_reducible apply Need.mk); focus (unfold roomOK; simp only [lns]; omega)) | (with_reducible apply Same.rfl) | (with_reducible apply Cut.l) | (with_reducible apply Frz.l)) <;> conv => whnf) | fail)
theorem k_cloneB (b : List UInt8) (t : Tg) (h : b.length ≤ 100000) : Con Tryz.prog 55 [.fs t 1 (lst b8 b)] [] (.ov 1 0 0 b.length) [.arr none 1 (lst b8 b)] := by
  refine spec_of_run ttok mixed (T0 := 5) (ts := [.tmp 2]) 5 rfl rfl rfl rfl (by simp) rfl ?_
  conv => whnf
  repeat' (first | with_reducible apply True.intro | ((first | ((with_reducible apply Nm.mk); focus ((try simp only [lns]); exact rfl)) | ((with_reducible apply Need.mk); focus (unfold roomOK; simp only [lns]; omega)) | (with_reducible apply Same.rfl) | (with_reducible apply Cut.l) | (with_reducible apply Frz.l)) <;> conv => whnf) | fail)
theorem k_own (g : Grd) (h : VG g) : Con Tryz.prog 56 [grdV g] [] (grdS g (.ov 17 0 0 1) (.ov 6 1 0 g.ps.length)) [.arr none 17 [lk1V], .arr none 6 (lst prV g.ps)] := by
  have c := fun t => k_cloneP g.ps t h.one
  refine spec_of_run ttok mixed (T0 := 7) (ts := [.cell 2 28]) 12 rfl rfl rfl rfl (by simp) rfl ?_
  conv => whnf
  repeat' (first | with_reducible apply True.intro | ((apply Same.mk rfl); (conv => whnf)) | ((first | (apply CallN.mk (k_cloneK)) | (apply CallN.mk (c _)) | (with_reducible apply Cut.l) | (with_reducible apply Frz.l)) <;> conv => whnf) | fail)
/-- The frame that a guard makes of another one. -/
def sealM (g : Grd) (f : Frm) : Frm := { f with sec := true, ctr := g.ctr, key := 1, mic := tagM K1 (hdrM { f with sec := true, ctr := g.ctr, key := 1, mic := [] }) }
/-- A sealed frame. -/
structure SF (f : Frm) : Prop where
  sec : f.sec = true
  key : f.key = 1
  pay : f.pay.length ≤ 95
  mic : f.mic = tagM K1 (hdrM f)
  ok : OkN f
  src : f.src = D0
theorem SF.seal {g : Grd} {f : Frm} (hg : VG g) (ok : OkN f) (hp : f.pay.length ≤ 95) (hs : f.src = D0) : SF (sealM g f) :=
  ⟨rfl, rfl, hp, rfl, ⟨ok.pan, ok.dst, ok.src, by have := hg.le; have := hg.res; show g.ctr ≤ _; omega⟩, hs⟩
theorem SF.mlen {f : Frm} (h : SF f) : f.mic.length = 4 := by rw [h.mic, tagM_len]
theorem vF_plain {f : Frm} (hs : f.sec = false) (hc : f.ctr = 0) (hk : f.key = 0) (hm : f.mic = []) (hp : f.pay.length ≤ 95) : vF f = true := by
  simp [vF, lenF, hs, hc, hk, hm]; omega
def grd1 (g : Grd) : Grd := { g with ctr := g.ctr + 1 }
theorem VG.grd1 {g : Grd} (h : VG g) (hr : g.ctr < g.res) : VG (grd1 g) := ⟨hr, h.res, h.non, h.one, h.odd⟩
theorem k_SealO (g : Grd) (f : Frm) (h : VG g) (hr : g.ctr < g.res) (hs : f.sec = false) (hc : f.ctr = 0) (hk : f.key = 0) (hm : f.mic = []) (hp : f.pay.length ≤ 95) (ok : OkN f) :
    Con Tryz.prog 18 [grdV g, frmV f, .v (.int .u8 1)] [] (.tup [grdS (grd1 g) (.ov 17 2 0 1) (.ov 6 3 0 g.ps.length), frmS (sealM g f) (.ov 1 1 0 f.pay.length) (.ov 1 0 0 4), int 0])
      [.arr (some 4) 1 (lst b8 (sealM g f).mic), .arr none 1 (lst b8 f.pay), .arr none 17 [lk1V], .arr none 6 (lst prV g.ps)] := by
  have cv := k_gValid g h
  have cf := k_frValid f (by omega) (by simp [hm])
  rw [vF_plain hs hc hk hm hp] at cf
  have ck := k_keyOf g
  have hres := h.res
  obtain ⟨c, sec, seq, pan, dst, src, ctr, key, pay, mic⟩ := f
  obtain ⟨o1, o2, o3, o4⟩ := ok
  dsimp only at hs hc hk hm hp o1 o2 o3 o4
  subst hs hc hk hm
  have ch := k_Header ⟨c, true, seq, pan, dst, src, g.ctr, 1, pay, []⟩ rfl hp (.inl rfl) ⟨o1, o2, o3, by show g.ctr ≤ _; omega⟩
  have ct := fun t => k_Tag K1 (hdrM ⟨c, true, seq, pan, dst, src, g.ctr, 1, pay, []⟩) t K1_len (by rw [hdrM_len]; dsimp only; omega)
  have cf2 := k_frValid (sealM g ⟨c, false, seq, pan, dst, src, 0, 0, pay, []⟩) (by show pay.length ≤ _; omega) (by show (tagM _ _).length ≤ _; rw [tagM_len]; decide)
  rw [vF_sealed (by rfl) hp (by show (tagM _ _).length = _; rw [tagM_len])] at cf2
  have cb := fun t => k_cloneB pay t (by omega)
  have co := k_own g h
  have hmm := tagM_len K1 (hdrM ⟨c, true, seq, pan, dst, src, g.ctr, 1, pay, []⟩)
  have hk2 : kindF c ≠ 2 := by cases c <;> decide
  have es : sealM g ⟨c, false, seq, pan, dst, src, 0, 0, pay, []⟩ = ⟨c, true, seq, pan, dst, src, g.ctr, 1, pay, tagM K1 (hdrM ⟨c, true, seq, pan, dst, src, g.ctr, 1, pay, []⟩)⟩ := rfl
  rw [es] at cf2 ⊢
  clear es
  generalize tagM K1 (hdrM ⟨c, true, seq, pan, dst, src, g.ctr, 1, pay, []⟩) = mm at *
  refine spec_of_run ttok mixed (T0 := 18446779533227986911) (ts := [.cell 6 28, .cell 7 54, .tmp 8]) 79 rfl rfl rfl rfl (by simp) rfl ?_
  conv => whnf
  repeat' (first | with_reducible apply True.intro | ((apply Nm.mk (nm_all hmm.symm)); (conv => whnf)) | ((apply Same.mk rfl); (conv => whnf)) | ((first | ((with_reducible apply Wr.u32); focus omega) | ((with_reducible apply Need.mk); focus first | (simp only [lns, hmm]; omega) | exact CleanP.nil rfl | kernel_rfl) | (apply CallN.mk (cv)) | (apply CallN.mk (cf)) | (apply CallN.mk (ck)) | (apply CallN.mk (ch)) | (apply CallN.mk (ct _)) | (apply CallN.mk (cf2)) | (apply CallN.mk (cb _)) | (apply CallN.mk (co)) | (with_reducible first | apply Bif.T | apply Bif.F) | ((with_reducible apply Bif.beq) <;> intro h <;> (try simp only [lns, hmm] at h) <;> (try (exfalso; omega))) | (with_reducible apply Bif.not) | (with_reducible first | apply Cut.l | apply GiveN.lend) | (with_reducible apply Frz.l)) <;> conv => whnf) | fail)
  done
theorem k_Seal (g : Grd) (f : Frm) (h : VG g) (hr : g.ctr < g.res) (hs : f.sec = false) (hc : f.ctr = 0) (hk : f.key = 0) (hm : f.mic = []) (hp : f.pay.length ≤ 95) (ok : OkN f) :
    Con Tryz.prog 18 [grdV g, frmV f, .v (.int .u8 1)] [] (.tup [grdV (grd1 g), frmV (sealM g f), int 0]) [] :=
  (k_SealO g f h hr hs hc hk hm hp ok).cl (.tup (.cons (.aggC (.ov rfl (by decide) rfl .rfl) (.aggC (.wk rfl .rfl) (.aggC (.wk rfl .rfl) (.aggC (.wk rfl .rfl) (.aggC (.all rfl rfl) .aggN)))))
      (.cons (.aggC (.wk rfl .rfl) (.aggC (.wk rfl .rfl) (.aggC (.wk rfl .rfl) (.aggC (.wk rfl .rfl) (.aggC (.wk rfl .rfl) (.aggC (.wk rfl .rfl) (.aggC (.wk rfl .rfl) (.aggC (.wk rfl .rfl) (.aggC (.wk rfl .rfl) (.aggC (.wk rfl .rfl) (.aggC (.all rfl rfl) (.aggC (.all rfl (tagM_len _ _).symm) .aggN)))))))))))) (.cons (.wk rfl .rfl) .nil)))) rfl
end Go.Fw

/- Guards: accept, Open. -/
namespace Go.Fw
open Go.Proofs
set_option maxHeartbeats 8000000
set_option maxRecDepth 8000
theorem k_cmpI (x : Int) : Con Tryz.prog 182 [int x, int x] [] (int 0) [] := by
  refine spec_of_run ttok mixed (T0 := 604275) (ts := [.tmp 4]) 20 rfl rfl rfl rfl (by simp) rfl ?_
  conv => whnf
  have c : Con Tryz.prog 209 [int x] [] (bool false) [] := by
    refine spec_of_run ttok mixed (T0 := 5) (ts := [.tmp 2]) 6 rfl rfl rfl rfl (by simp) rfl ?_
    conv => whnf
    repeat' (first | with_reducible apply True.intro | ((apply Same.bool (by simp)); (conv => whnf)) | ((with_reducible apply Frz.l) <;> conv => whnf) | fail)
  repeat' (first | with_reducible apply True.intro | ((first | (apply CallN.mk (c)) | (with_reducible apply Bif.F) | ((with_reducible apply Bif.dec) <;> intro h <;> (try simp only [lns] at h) <;> (try (exfalso; omega))) | (apply Same.int; focus rfl) | (with_reducible apply Frz.l)) <;> conv => whnf) | fail)
theorem k_cmpS (x : Int) : Con Tryz.prog 183 [.v (.int .u16 x), .v (.int .u16 x)] [] (int 0) [] := by
  refine spec_of_run ttok mixed (T0 := 604275) (ts := [.tmp 4]) 20 rfl rfl rfl rfl (by simp) rfl ?_
  conv => whnf
  have c : Con Tryz.prog 210 [.v (.int .u16 x)] [] (bool false) [] := by
    refine spec_of_run ttok mixed (T0 := 5) (ts := [.tmp 2]) 6 rfl rfl rfl rfl (by simp) rfl ?_
    conv => whnf
    repeat' (first | with_reducible apply True.intro | ((apply Same.bool (by simp)); (conv => whnf)) | ((with_reducible apply Frz.l) <;> conv => whnf) | fail)
  repeat' (first | with_reducible apply True.intro | ((first | (apply CallN.mk (c)) | (with_reducible apply Bif.F) | ((with_reducible apply Bif.dec) <;> intro h <;> (try simp only [lns] at h) <;> (try (exfalso; omega))) | (apply Same.int; focus rfl) | (with_reducible apply Frz.l)) <;> conv => whnf) | fail)
theorem k_cmpE (x : Int) : Con Tryz.prog 184 [q64 x, q64 x] [] (int 0) [] := by
  refine spec_of_run ttok mixed (T0 := 604275) (ts := [.tmp 4]) 20 rfl rfl rfl rfl (by simp) rfl ?_
  conv => whnf
  have c : Con Tryz.prog 211 [q64 x] [] (bool false) [] := by
    refine spec_of_run ttok mixed (T0 := 5) (ts := [.tmp 2]) 6 rfl rfl rfl rfl (by simp) rfl ?_
    conv => whnf
    repeat' (first | with_reducible apply True.intro | ((apply Same.bool (by simp)); (conv => whnf)) | ((with_reducible apply Frz.l) <;> conv => whnf) | fail)
  repeat' (first | with_reducible apply True.intro | ((first | (apply CallN.mk (c)) | (with_reducible apply Bif.F) | ((with_reducible apply Bif.dec) <;> intro h <;> (try simp only [lns] at h) <;> (try (exfalso; omega))) | (apply Same.int; focus rfl) | (with_reducible apply Frz.l)) <;> conv => whnf) | fail)
theorem k_cmp8 (x : Int) : Con Tryz.prog 123 [.v (.int .u8 x), .v (.int .u8 x)] [] (int 0) [] := by
  refine spec_of_run ttok mixed (T0 := 604275) (ts := [.tmp 4]) 20 rfl rfl rfl rfl (by simp) rfl ?_
  conv => whnf
  have c : Con Tryz.prog 185 [.v (.int .u8 x)] [] (bool false) [] := by
    refine spec_of_run ttok mixed (T0 := 5) (ts := [.tmp 2]) 6 rfl rfl rfl rfl (by simp) rfl ?_
    conv => whnf
    repeat' (first | with_reducible apply True.intro | ((apply Same.bool (by simp)); (conv => whnf)) | ((with_reducible apply Frz.l) <;> conv => whnf) | fail)
  repeat' (first | with_reducible apply True.intro | ((first | (apply CallN.mk (c)) | (with_reducible apply Bif.F) | ((with_reducible apply Bif.dec) <;> intro h <;> (try simp only [lns] at h) <;> (try (exfalso; omega))) | (apply Same.int; focus rfl) | (with_reducible apply Frz.l)) <;> conv => whnf) | fail)
theorem k_or0 (t : Tg) (n : Nat) (h : n = 2 ∨ n = 3) : Con Tryz.prog 121 [.fs t 1 (ints (List.replicate n 0))] [] (int 0) [] := by
  rcases h with rfl | rfl
  all_goals
    refine spec_of_run ttok mixed (T0 := 17389) (ts := [.tmp 2]) 18 rfl rfl rfl rfl (by simp) rfl ?_
    conv => whnf
    repeat' (first | ((first | ((with_reducible apply Nm.mk); focus ((try simp only [lns]); exact rfl)) | (with_reducible apply Frz.l)) <;> conv => whnf) | fail)
    refine LoopN.unr 5 ttok mixed (T0 := 17389) ?_
    conv => whnf
    repeat' (first | with_reducible apply True.intro | ((apply Elem.mk _ rfl); (conv => whnf)) | ((apply Need.mk (by decide)); (conv => whnf)) | ((apply Same.mk rfl); (conv => whnf)) | ((first | ((with_reducible apply Nm.mk); focus ((try simp only [lns]); exact rfl)) | ((with_reducible apply Wr.i64); focus omega) | ((with_reducible first | apply Bif.dec | apply Bif.bne) <;> intro h <;> (try simp only [lns] at h) <;> (try (exfalso; omega))) | (with_reducible apply Frz.l)) <;> conv => whnf) | fail)
theorem k_aCmp : Con Tryz.prog 122 [d0V, d0V] [] (int 0) [] := by
  refine spec_of_run ttok mixed (T0 := 31) (ts := [.tmp 4]) 22 rfl rfl rfl rfl (by simp) rfl ?_
  conv => whnf
  repeat' (first | with_reducible apply True.intro | ((first | ((with_reducible apply Nm.mk); focus ((try simp only [lns]); exact rfl)) | ((with_reducible apply Need.mk); focus first | (simp only [lns]; omega) | exact CleanP.nil rfl | kernel_rfl) | (apply CallN.mk (k_cmpI _)) | (apply CallN.mk (k_cmpS _)) | (apply CallN.mk (k_cmpE _)) | (apply CallN.mk (k_or0 _ 3 (by decide))) | (with_reducible apply Same.rfl) | (with_reducible apply GiveN.lend) | (with_reducible apply Frz.l)) <;> conv => whnf) | fail)
theorem k_pCmp (p q : Pr) : Con Tryz.prog 58 [prV p, prV q] [] (int 0) [] := by
  refine spec_of_run ttok mixed (T0 := 31) (ts := [.tmp 4]) 17 rfl rfl rfl rfl (by simp) rfl ?_
  conv => whnf
  repeat' (first | with_reducible apply True.intro | ((first | ((with_reducible apply Nm.mk); focus ((try simp only [lns]); exact rfl)) | ((with_reducible apply Need.mk); focus first | (simp only [lns]; omega) | exact CleanP.nil rfl | kernel_rfl) | (apply CallN.mk (k_aCmp)) | (apply CallN.mk (k_cmp8 _)) | (apply CallN.mk (k_or0 _ 2 (by decide))) | (with_reducible apply Same.rfl) | (with_reducible apply GiveN.lend) | (with_reducible apply Frz.l)) <;> conv => whnf) | fail)
def seenP (p : Pr) (c : Nat) : Bool := decide (c ≤ p.last ∧ (32 ≤ p.last - c ∨ p.win >>> (p.last - c) % 2 = 1))
def accM (p : Pr) (c : Nat) : Pr := if c > p.last then ⟨c, (p.win * 2 ^ min (c - p.last) 32) % 4294967296 ||| 1⟩ else ⟨p.last, p.win ||| (1 <<< (p.last - c))⟩
def pr0V : SV := .agg [adrV adr0, .v (.int .u8 0), .v (.int .u32 0), .v (.int .u32 0)]
theorem or32 {a b : Nat} (ha : a ≤ 4294967295) (hb : b ≤ 4294967295) : IntKind.wrap .u32 ((BitVec.ofInt (IntKind.bits .u32) (a : Int) ||| BitVec.ofInt (IntKind.bits .u32) (b : Int)).toNat) = ((a ||| b : Nat) : Int) := by
  have w : ∀ y : Nat, y ≤ 4294967295 → IntKind.wrap .u32 (y : Int) = (y : Int) := fun y hy => by simp [IntKind.wrap, IntKind.bits, IntKind.signed]; omega
  have h1 := Nat.or_lt_two_pow (n := 32) (x := a) (y := b) (by omega) (by omega)
  rw [BitVec.toNat_or, show IntKind.bits .u32 = 32 from rfl, BitVec.ofInt_natCast, BitVec.ofInt_natCast, BitVec.toNat_ofNat, BitVec.toNat_ofNat, Nat.mod_eq_of_lt (by omega), Nat.mod_eq_of_lt (by omega), w _ (by omega)]
theorem p2I (k : Nat) : (2 : Int) ^ k = ((2 ^ k : Nat) : Int) := by rw [Int.natCast_pow]; rfl
theorem shl32 (a d : Nat) : IntKind.wrap .u32 ((a : Int) * 2 ^ min ((d : Int)).toNat (IntKind.bits .u32)) = ((a * 2 ^ min d 32 % 4294967296 : Nat) : Int) := by
  have : ∀ x : Int, IntKind.wrap .u32 x = x % 4294967296 := fun x => by simp [IntKind.wrap, IntKind.bits, IntKind.signed]
  rw [this, Int.toNat_natCast, show IntKind.bits .u32 = 32 from rfl, p2I, ← Int.natCast_mul]
  omega
theorem shr32 {a d : Nat} (hd : d < 32) : (a : Int).fdiv (2 ^ min ((d : Int)).toNat (IntKind.bits .u32)) = ((a >>> d : Nat) : Int) := by
  rw [Int.toNat_natCast, show IntKind.bits .u32 = 32 from rfl, Nat.min_eq_left (by omega), Nat.shiftRight_eq_div_pow, p2I, Int.fdiv_eq_ediv_of_nonneg _ (Int.natCast_nonneg _), ← Int.natCast_ediv]
theorem k_accept (p : Pr) (c : Nat) (hp : p.win ≤ 4294967295 ∧ p.last ≤ 4294967295) (hc : c ≤ 4294967295) :
    Con Tryz.prog 59 [prV p, .v (.int .u32 (c : Int))] [] (if seenP p c = true then .tup [pr0V, int 13] else .tup [prV (accM p c), int 0]) [] := by
  by_cases hgt : c > p.last
  · have hs : seenP p c = false := by rw [seenP, decide_eq_false_iff_not]; omega
    rw [if_neg (by rw [hs]; decide), accM, if_pos hgt]
    have e2 : ((c : Int) - (p.last : Int)) = ((c - p.last : Nat) : Int) := by omega
    have e1 : IntKind.wrap .u32 ((p.win : Int) * 2 ^ min ((c : Int) - (p.last : Int)).toNat (IntKind.bits .u32)) = ((p.win * 2 ^ min (c - p.last) 32 % 4294967296 : Nat) : Int) := by rw [e2]; exact shl32 _ _
    have e3 := or32 (a := p.win * 2 ^ min (c - p.last) 32 % 4294967296) (b := 1) (by omega) (by decide)
    refine spec_of_run ttok mixed (T0 := 68719477879) (ts := [.cell 4 148, .tmp 5]) 45 rfl rfl rfl rfl (by simp) rfl ?_
    conv => whnf
    repeat' (first | with_reducible apply True.intro | ((with_reducible apply Wr.u32); (focus omega); (conv => whnf)) | ((apply Wr.eq e1); (conv => whnf)) | ((apply Same.int e3); (conv => whnf)) | ((apply Same.mk rfl); (conv => whnf)) | ((first | ((with_reducible apply Need.mk); focus omega) | ((with_reducible apply Bif.dec) <;> intro h <;> (try simp only [lns] at h) <;> (try (exfalso; omega))) | (with_reducible apply Frz.l)) <;> conv => whnf) | fail)
    done
  · have hb : p.last - c ≤ 4294967295 := by omega
    have e2 : ((p.last : Int) - (c : Int)) = ((p.last - c : Nat) : Int) := by omega
    have ew : IntKind.wrap .u32 ((p.last : Int) - (c : Int)) = ((p.last - c : Nat) : Int) := by rw [e2]; simp [IntKind.wrap, IntKind.bits, IntKind.signed]; omega
    by_cases hw : p.last - c < 32
    · have e3 := and32 (a := p.win >>> (p.last - c)) (by rw [Nat.shiftRight_eq_div_pow]; exact Nat.le_trans (Nat.div_le_self _ _) hp.1)
      have e4 : (p.win : Int).fdiv (2 ^ min (p.last - c) (IntKind.bits .u32)) = ((p.win >>> (p.last - c) : Nat) : Int) := shr32 (a := p.win) hw
      have e5 : IntKind.wrap .u32 (1 * 2 ^ min (((p.last - c : Nat) : Int)).toNat (IntKind.bits .u32)) = ((1 <<< (p.last - c) : Nat) : Int) := by
        rw [Int.toNat_natCast, show IntKind.bits .u32 = 32 from rfl, Nat.min_eq_left (by omega), Nat.shiftLeft_eq, p2I, Int.one_mul, Nat.one_mul]
        have h1 : 2 ^ (p.last - c) < 2 ^ 32 := Nat.pow_lt_pow_right (by decide) hw
        generalize 2 ^ (p.last - c) = z at *
        simp [IntKind.wrap, IntKind.bits, IntKind.signed]; omega
      have e6 := or32 (a := p.win) (b := 1 <<< (p.last - c)) hp.1 (by
        rw [Nat.shiftLeft_eq, Nat.one_mul]
        have h1 : 2 ^ (p.last - c) < 2 ^ 32 := Nat.pow_lt_pow_right (by decide) hw
        omega)
      by_cases hbit : p.win >>> (p.last - c) % 2 = 1
      · have hs : seenP p c = true := by rw [seenP, decide_eq_true_eq]; exact ⟨by omega, .inr hbit⟩
        rw [if_pos hs]
        refine spec_of_run ttok mixed (T0 := 68719477879) (ts := [.cell 4 148, .tmp 5]) 45 rfl rfl rfl rfl (by simp) rfl ?_
        conv => whnf
        repeat' (first | with_reducible apply True.intro | ((apply Wr.eq ew); (conv => whnf)) | ((apply Same.mk rfl); (conv => whnf)) | ((first | ((with_reducible apply Need.mk); focus omega) | (with_reducible apply Bif.F) | ((with_reducible first | apply Bif.dec | apply Bif.beq) <;> intro h <;> (try simp only [lns] at h) <;> (try first | (exfalso; omega) | (exact absurd h (by rw [e4, e3]; omega)))) | (with_reducible apply Frz.l)) <;> conv => whnf) | fail)
        done
      · have hs : seenP p c = false := by rw [seenP, decide_eq_false_iff_not]; omega
        rw [if_neg (by rw [hs]; decide), accM, if_neg hgt]
        refine spec_of_run ttok mixed (T0 := 68719477879) (ts := [.cell 4 148, .tmp 5]) 45 rfl rfl rfl rfl (by simp) rfl ?_
        conv => whnf
        repeat' (first | with_reducible apply True.intro | ((apply Wr.eq ew); (conv => whnf)) | ((apply Wr.eq e5); (conv => whnf)) | ((apply Same.int e6); (conv => whnf)) | ((first | ((with_reducible apply Need.mk); focus omega) | (with_reducible apply Bif.F) | ((with_reducible first | apply Bif.dec | apply Bif.beq) <;> intro h <;> (try simp only [lns] at h) <;> (try first | (exfalso; omega) | (exact absurd h (by rw [e4, e3]; omega)))) | (with_reducible apply Same.rfl) | (apply Same.int; focus rfl) | (with_reducible apply Frz.l)) <;> conv => whnf) | fail)
        done
    · have hs : seenP p c = true := by rw [seenP, decide_eq_true_eq]; exact ⟨by omega, .inl (by omega)⟩
      rw [if_pos hs]
      refine spec_of_run ttok mixed (T0 := 68719477879) (ts := [.cell 4 148, .tmp 5]) 45 rfl rfl rfl rfl (by simp) rfl ?_
      conv => whnf
      repeat' (first | with_reducible apply True.intro | ((apply Wr.eq ew); (conv => whnf)) | ((apply Same.mk rfl); (conv => whnf)) | ((first | (with_reducible apply Bif.T) | ((with_reducible apply Bif.dec) <;> intro h <;> (try simp only [lns] at h) <;> (try (exfalso; omega))) | (with_reducible apply Frz.l)) <;> conv => whnf) | fail)
      done
end Go.Fw

/- Guards: Open, Challenge, Respond, Restart. -/
namespace Go.Fw
open Go.Proofs
set_option maxHeartbeats 8000000
set_option maxRecDepth 8000
def grd0V : SV := .agg [nilV, .v (.int .u32 0), .v (.int .u32 0), .v (.int .u32 0), nilV]
def msgM (x : UInt8) (n : Nat) : List UInt8 := [x] ++ beN 4 n
theorem k_messageO (x : UInt8) (n : Nat) (hn : n ≤ 4294967295) : Con Tryz.prog 50 [b8 x, .v (.int .u32 (n : Int))] [] (.ov 1 0 0 5) [.arr (some 5) 1 (lst b8 (msgM x n))] := by
  have c := fun t => k_Append [x] n 4 t (by decide) (by simp)
  refine spec_of_run ttok mixed (T0 := 19) (ts := [.tmp 4]) 10 rfl rfl rfl rfl (by simp) rfl ?_
  conv => whnf
  repeat' (first | with_reducible apply True.intro | ((apply Nm.mk (show [b8 x] = lst b8 [x] from rfl)); (conv => whnf)) | ((apply Same.mk rfl); (conv => whnf)) | ((first | ((with_reducible apply Wr.u64); focus omega) | ((with_reducible apply Need.mk); focus first | (simp only [lns]; omega) | exact CleanP.lst rfl (fun _ => rfl)) | (apply CallN.mk (c _)) | (with_reducible apply GiveN.lend) | (with_reducible apply Frz.l)) <;> conv => whnf) | fail)
theorem k_message (x : UInt8) (n : Nat) (hn : n ≤ 4294967295) : Con Tryz.prog 50 [b8 x, .v (.int .u32 (n : Int))] [] (bys (msgM x n)) [] :=
  (k_messageO x n hn).cl (.one (.all rfl (by simp [msgM, beN_len])) (fun l h => by cases h)) rfl
theorem k_ChallengeO (g : Grd) (h : VG g) : Con Tryz.prog 17 [grdV g] [] (.ov 1 0 0 5) [.arr (some 5) 1 (lst b8 (msgM 1 g.nonce))] := by
  have c := k_messageO 1 g.nonce h.non
  have cv := k_gValid g h
  refine spec_of_run ttok mixed (T0 := 39) (ts := [.tmp 2]) 9 rfl rfl rfl rfl (by simp) rfl ?_
  conv => whnf
  repeat' (first | with_reducible apply True.intro | ((first | (apply CallN.mk (cv)) | (apply CallN.mk (c)) | (with_reducible apply Bif.T) | (with_reducible apply Bif.not) | (with_reducible apply Same.rfl) | (with_reducible apply Frz.l)) <;> conv => whnf) | fail)
theorem k_RespondO (n : Nat) : Con Tryz.prog 16 [bys (msgM 1 n)] [] (.tup [.ov 1 0 0 5, bool true]) [.arr none 1 (lst b8 (msgM 2 n))] := by
  have hl : (msgM 1 n).length = 5 := by simp [msgM, beN_len]
  have e0 : gt (msgM 1 n) 0 = 1 := rfl
  have e1 : (msgM 1 n).drop 1 = beN 4 n := rfl
  generalize hm : msgM 1 n = m at *
  refine spec_of_run ttok mixed (T0 := 4109) (ts := [.tmp 2, .tmp 3]) 17 rfl rfl rfl rfl (by simp) rfl ?_
  conv => whnf
  repeat' (first | with_reducible apply True.intro | ((apply Nm.mk (nm_tail (n := 1) (by decide))); (conv => whnf)) | ((apply Same.mk (show [SV.v (.int .u8 2)] ++ lst b8 (List.drop 1 m) = lst b8 (msgM 2 n) by rw [e1]; rfl)); (conv => whnf)) | ((first | ((with_reducible apply Nm.mk); focus ((try simp only [lns, hl]); exact rfl)) | ((with_reducible apply Need.mk); focus first | (simp only [lns, hl]; omega) | (unfold roomOK; simp only [lns, hl]; omega)) | ((with_reducible apply Elem.lst); focus omega) | (with_reducible apply Bif.F) | ((with_reducible apply Bif.bne) <;> intro h <;> (try simp only [lns, hl] at h) <;> (try first | (exfalso; omega) | (exact absurd (by rw [e0]; rfl) h))) | (with_reducible apply Same.rfl) | (apply Same.bool; focus (with_reducible rfl)) | (with_reducible first | apply Alt.l | apply Cut.l) | (with_reducible apply Frz.l)) <;> conv => whnf) | fail)
  done
/-- A frame from the one peer. -/
theorem k_Open1 (g : Grd) (p : Pr) (f : Frm) (h : VG g) (hp : g.ps = [p]) (hf : SF f) :
    Con Tryz.prog 20 [grdV g, frmV f] [] (if seenP p f.ctr = true then .tup [grd0V, int 13] else .tup [grdV { g with ps := [accM p f.ctr] }, int 0]) [] := by
  have cv := k_gValid g h
  have cf := k_frValid f (by have := hf.pay; omega) (by rw [hf.mlen]; decide)
  rw [vF_sealed hf.sec hf.pay hf.mlen] at cf
  have ck := k_keyOf g
  have ch := k_Header f hf.sec hf.pay (.inr hf.mlen) hf.ok
  have ct := fun t1 t2 => k_Verify K1 (hdrM f) f.mic t1 t2 K1_len (by rw [hdrM_len]; have := hf.pay; omega) hf.mlen
  rw [decide_eq_true hf.mic.symm] at ct
  have co := k_own g h
  have hw := (h.odd p (by rw [hp]; simp)).2
  have ca := k_accept p f.ctr hw hf.ok.ctr
  have cc := fun q => k_pCmp p q
  have hfs := hf.src
  have hfk := hf.key
  have hfc := hf.sec
  obtain ⟨gc, gr, gn, gp⟩ := g
  dsimp only at hp
  subst hp
  obtain ⟨c, sec, seq, pan, dst, src, ctr, key, pay, mic⟩ := f
  dsimp only at hfs hfk hfc ca
  subst hfs hfk hfc
  by_cases hs : seenP p ctr = true
  · rw [if_pos hs] at ca ⊢
    refine spec_of_run ttok mixed (T0 := 44917273731796548135974670973929898647551) (ts := [.cell 4 28, .tmp 5]) 154 rfl rfl rfl rfl (by simp) rfl ?_
    conv => whnf
    repeat' (first | ((first | ((with_reducible apply Need.mk); focus kernel_rfl) | (apply CallN.mk (cv)) | (apply CallN.mk (cf)) | (apply CallN.mk (ck)) | (apply CallN.mk (ch)) | (apply CallN.mk (ct _ _)) | (with_reducible first | apply Bif.T | apply Bif.F) | (with_reducible apply Bif.not) | (with_reducible apply Frz.l)) <;> conv => whnf) | fail)
    refine LoopN.unr 2 ttok mixed (T0 := 44917273731796548135974670973929898647551) ?_
    conv => whnf
    repeat' (first | with_reducible apply True.intro | ((apply Elem.mk _ rfl); (conv => whnf)) | ((apply Same.mk rfl); (conv => whnf)) | ((first | ((with_reducible apply Nm.mk); focus ((try simp only [lns]); exact rfl)) | ((with_reducible apply Need.mk); focus first | (simp only [lns]; omega) | kernel_rfl) | (apply CallN.mk (cc ⟨ctr, 4294967295⟩)) | (apply CallN.mk (co)) | (apply CallN.mk (ca)) | (with_reducible apply Bif.T) | ((with_reducible first | apply Bif.dec | apply Bif.beq | apply Bif.bne) <;> intro h <;> (try simp only [lns] at h) <;> (try first | (exfalso; omega) | (exact absurd rfl h))) | (with_reducible apply Bif.and) | (with_reducible apply Frz.l)) <;> conv => whnf) | fail)
  · rw [if_neg hs] at ca ⊢
    refine Con.cl (r := .tup [grdS ⟨gc, gr, gn, [accM p ctr]⟩ (.ov 17 0 0 1) (.ov 6 1 0 1), int 0]) (hp' := [.arr none 17 [lk1V], .arr none 6 (lst prV [accM p ctr])]) ?_
      (.tup (.cons (.aggC (.ov rfl (by decide) rfl .rfl) (.aggC (.wk rfl .rfl) (.aggC (.wk rfl .rfl) (.aggC (.wk rfl .rfl) (.aggC (.all rfl rfl) .aggN))))) (.cons (.wk rfl .rfl) .nil))) rfl
    refine spec_of_run ttok mixed (T0 := 44917273731796548135974670973929898647551) (ts := [.cell 4 28, .tmp 5]) 154 rfl rfl rfl rfl (by simp) rfl ?_
    conv => whnf
    repeat' (first | ((first | ((with_reducible apply Need.mk); focus kernel_rfl) | (apply CallN.mk (cv)) | (apply CallN.mk (cf)) | (apply CallN.mk (ck)) | (apply CallN.mk (ch)) | (apply CallN.mk (ct _ _)) | (with_reducible first | apply Bif.T | apply Bif.F) | (with_reducible apply Bif.not) | (with_reducible apply Frz.l)) <;> conv => whnf) | fail)
    refine LoopN.unr 2 ttok mixed (T0 := 44917273731796548135974670973929898647551) ?_
    conv => whnf
    repeat' (first | with_reducible apply True.intro | ((apply Elem.mk _ rfl); (conv => whnf)) | ((apply Same.mk rfl); (conv => whnf)) | ((first | ((with_reducible apply Nm.mk); focus ((try simp only [lns]); exact rfl)) | ((with_reducible apply Need.mk); focus first | (simp only [lns]; omega) | kernel_rfl) | (apply CallN.mk (cc ⟨ctr, 4294967295⟩)) | (apply CallN.mk (co)) | (apply CallN.mk (ca)) | (with_reducible apply Bif.T) | ((with_reducible first | apply Bif.dec | apply Bif.beq | apply Bif.bne) <;> intro h <;> (try simp only [lns] at h) <;> (try first | (exfalso; omega) | (exact absurd rfl h))) | (with_reducible apply Bif.and) | (with_reducible apply Cut.l) | (with_reducible apply Frz.l)) <;> conv => whnf) | fail)
    done
/-- A command from a peer that is not known yet. -/
theorem k_Open0O (g : Grd) (f : Frm) (h : VG g) (hp : g.ps = []) (hf : SF f) (hc : f.c = true) (hpay : f.pay = msgM 2 g.nonce) :
    Con Tryz.prog 20 [grdV g, frmV f] [] (.tup [grdS { g with ps := [⟨f.ctr, 4294967295⟩] } (.ov 17 0 0 1) (.ov 6 1 0 1), int 0]) [.arr none 17 [lk1V], .arr none 6 (lst prV [⟨f.ctr, 4294967295⟩])] := by
  have cv := k_gValid g h
  have cf := k_frValid f (by have := hf.pay; omega) (by rw [hf.mlen]; decide)
  rw [vF_sealed hf.sec hf.pay hf.mlen] at cf
  have ck := k_keyOf g
  have ch := k_Header f hf.sec hf.pay (.inr hf.mlen) hf.ok
  have ct := fun t1 t2 => k_Verify K1 (hdrM f) f.mic t1 t2 K1_len (by rw [hdrM_len]; have := hf.pay; omega) hf.mlen
  rw [decide_eq_true hf.mic.symm] at ct
  have co := k_own g h
  have cm := k_message 2 g.nonce h.non
  have ce := fun t1 t2 => k_bytesEqual f.pay (msgM 2 g.nonce) t1 t2
  rw [decide_eq_true hpay] at ce
  have hfs := hf.src
  have hfk := hf.key
  have hfc := hf.sec
  obtain ⟨gc, gr, gn, gp⟩ := g
  dsimp only at hp
  subst hp
  obtain ⟨c, sec, seq, pan, dst, src, ctr, key, pay, mic⟩ := f
  dsimp only at hfs hfk hfc hc
  subst hfs hfk hfc hc
  refine spec_of_run ttok mixed (T0 := 44917273731796548135974670973929898647551) (ts := [.cell 4 28, .tmp 5]) 154 rfl rfl rfl rfl (by simp) rfl ?_
  conv => whnf
  repeat' (first | ((first | ((with_reducible apply Need.mk); focus kernel_rfl) | (apply CallN.mk (cv)) | (apply CallN.mk (cf)) | (apply CallN.mk (ck)) | (apply CallN.mk (ch)) | (apply CallN.mk (ct _ _)) | (with_reducible first | apply Bif.T | apply Bif.F) | (with_reducible apply Bif.not) | (with_reducible apply Frz.l)) <;> conv => whnf) | fail)
  refine LoopN.unr 2 ttok mixed (T0 := 44917273731796548135974670973929898647551) ?_
  conv => whnf
  repeat' (first | with_reducible apply True.intro | ((apply Same.mk rfl); (conv => whnf)) | ((first | ((with_reducible apply Nm.mk); focus ((try simp only [lns]); exact rfl)) | ((with_reducible apply Need.mk); focus first | omega | (simp only [lns]; omega) | kernel_rfl | (unfold roomOK; simp only [lns]; omega)) | (apply CallN.mk (co)) | (apply CallN.mk (cm)) | (apply CallN.mk (ce _ _)) | (with_reducible first | apply Bif.T | apply Bif.F) | ((with_reducible first | apply Bif.dec | apply Bif.beq | apply Bif.bne) <;> intro h <;> (try simp only [lns] at h) <;> (try first | (exfalso; omega) | (exact absurd rfl h))) | (with_reducible apply Bif.not) | (with_reducible first | apply Alt.l | apply Cut.l) | (with_reducible apply Frz.l)) <;> conv => whnf) | fail)
  done
end Go.Fw

/- The top: Key, device, pair, sealed, opened. -/
namespace Go.Fw
open Go.Proofs
set_option maxHeartbeats 8000000
set_option maxRecDepth 8000
def k1T (n : Nat) : List Int := toI (K1.take n ++ List.replicate (16 - n) 0)
theorem k1_step : ∀ n : Fin 16, (k1T n.1).set n.1 (IntKind.wrap .u8 (17 * 1 + (n.1 : Int))) = k1T (n.1 + 1) := by decide +kernel
theorem k_Key1 : Con Tryz.prog 44 [int 1] [] (keyV K1) [] := by
  refine spec_of_run ttok mixed (T0 := 93) (ts := [.cell 2 126]) 17 rfl rfl rfl rfl (by simp) rfl ?_
  conv => whnf
  repeat' (first | ((with_reducible apply Frz.l) <;> conv => whnf) | fail)
  refine loop_keep ttok mixed (T0 := 93) [0, 2] (ι := {k : Nat // k ≤ 16})
    (fun k => [(3, .pb 1 []), (4, int (k.1 : Int))]) (fun k => [.cells (.ba 16 (List.replicate 16 0)), .cells (.ba 16 (k1T k.1))]) (fun k => 16 - k.1) ⟨0, by omega⟩ ?_
  conv => whnf
  repeat' (first | ((apply Same.mk rfl); (conv => whnf)) | ((with_reducible apply Frz.l) <;> conv => whnf) | fail)
  rintro ⟨k, hk⟩
  dsimp only
  conv => whnf
  by_cases h16 : k < 16
  · have e := k1_step ⟨k, h16⟩
    dsimp only at e
    repeat' (first | ((with_reducible apply Wr.i64); (focus omega); (conv => whnf)) | ((apply Wr.mk); (conv => whnf)) | ((first | ((with_reducible apply Nm.mk); focus ((try simp only [lns]); exact rfl)) | ((with_reducible apply Need.mk); focus omega) | ((with_reducible apply Bif.dec) <;> intro h <;> (try simp only [lns] at h) <;> (try (exfalso; omega))) | (with_reducible apply Frz.l)) <;> conv => whnf) | fail)
    (refine ⟨⟨k + 1, by omega⟩, ?_⟩; (try dsimp only); conv => whnf); repeat' (first | with_reducible apply True.intro | ((apply Same.mk (by rw [e])); (conv => whnf)) | ((first | ((with_reducible apply Need.mk); focus omega) | (with_reducible apply Same.rfl) | (apply Same.int; focus rfl) | (with_reducible apply Turn.l) | (with_reducible apply Frz.l)) <;> conv => whnf) | fail)
  · obtain rfl : k = 16 := by omega
    repeat' (first | with_reducible apply True.intro | ((apply Same.mk rfl); (conv => whnf)) | ((first | ((with_reducible apply Bif.dec) <;> intro h <;> (try simp only [lns] at h) <;> (try (exfalso; omega))) | (with_reducible apply Frz.l)) <;> conv => whnf) | fail)
theorem k_device (n : Nat) (hn : n ≤ 1000) : Con Tryz.prog 19 [int (n : Int)] [] (lnkV (144115188075855873 + n)) [] := by
  have e : IntKind.wrap .u64 (144115188075855872 + (n : Int) + 1) = ((144115188075855873 + n : Nat) : Int) := by simp [IntKind.wrap, IntKind.bits, IntKind.signed]; omega
  refine spec_of_run ttok mixed (T0 := 5) (ts := [.cell 2 52]) 8 rfl rfl rfl rfl (by simp) rfl ?_
  conv => whnf
  repeat' (first | with_reducible apply True.intro | ((with_reducible apply Wr.i64); (focus omega); (conv => whnf)) | ((apply Wr.eq e); (conv => whnf)) | ((apply Same.mk rfl); (conv => whnf)) | ((with_reducible apply Frz.l) <;> conv => whnf) | fail)
end Go.Fw
