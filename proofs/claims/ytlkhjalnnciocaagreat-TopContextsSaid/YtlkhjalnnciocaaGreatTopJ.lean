/- Guards with one key and at most one peer: Valid, keyOf, own, accept. -/
import Derived.Test.YtlkhjalnnciocaaGreatTopI
namespace Go.Fw
open Go.Proofs
set_option maxHeartbeats 8000000
set_option maxRecDepth 8000
def K1 : List UInt8 := (List.range 16).map fun n => UInt8.ofNat (17 + n)
theorem K1_len : K1.length = 16 := by simp [K1]
def D0 : Nat := 144115188075855873
def D1 : Nat := 144115188075855874
structure Pr where
  last : Nat
  win : Nat
instance : Inhabited Pr := ⟨⟨0, 0⟩⟩
structure Grd where
  ctr : Nat
  res : Nat
  nonce : Nat
  ps : List Pr
def d0V : SV := .agg [.v (.int .i64 3), .v (.int .u16 0), .v (.int .u64 144115188075855873)]
def lk1V : SV := .agg [.v (.int .u8 1), keyV K1]
def keysV : SV := .fs .no 17 [lk1V]
def prV (p : Pr) : SV := .agg [d0V, .v (.int .u8 1), .v (.int .u32 (p.last : Int)), .v (.int .u32 (p.win : Int))]
def grdS (g : Grd) (k p : SV) : SV := .agg [k, .v (.int .u32 (g.ctr : Int)), .v (.int .u32 (g.res : Int)), .v (.int .u32 (g.nonce : Int)), p]
def grdV (g : Grd) : SV := grdS g keysV (.fs .no 6 (lst prV g.ps))
structure VG (g : Grd) : Prop where
  le : g.ctr ≤ g.res
  res : g.res ≤ 4294967295
  non : g.nonce ≤ 4294967295
  one : g.ps.length ≤ 1
  odd : ∀ p ∈ g.ps, p.win % 2 = 1 ∧ p.win ≤ 4294967295 ∧ p.last ≤ 4294967295
theorem VG.cases {g : Grd} (h : VG g) : g.ps = [] ∨ ∃ p, g.ps = [p] ∧ p.win % 2 = 1 ∧ p.win ≤ 4294967295 ∧ p.last ≤ 4294967295 := by
  obtain ⟨_, _, _, h1, h2⟩ := h
  match hp : g.ps, h1, h2 with
  | [], _, _ => exact .inl rfl
  | [p], _, h2 => exact .inr ⟨p, rfl, h2 p (by simp)⟩
theorem k_ascK : Con Tryz.prog 111 [keysV, .clo 112 []] [] (bool true) [] := by
  refine spec_of_run ttok mixed (T0 := 8389171) (ts := [.tmp 4]) 24 rfl rfl rfl rfl (by simp) rfl ?_
  conv => whnf
  repeat' (first | ((with_reducible apply Frz.l) <;> conv => whnf) | fail)
  refine LoopN.unr 2 ttok mixed (T0 := 8389171) ?_
  conv => whnf
  repeat' (first | with_reducible apply True.intro | ((first | ((with_reducible apply Nm.mk); focus ((try simp only [lns]); exact rfl)) | ((with_reducible apply Bif.dec) <;> intro h <;> (try simp only [lns] at h) <;> (try (exfalso; omega))) | (apply Same.bool; focus (with_reducible rfl)) | (with_reducible apply Frz.l)) <;> conv => whnf) | fail)
theorem k_ascP (l : List Pr) (h : l.length ≤ 1) : Con Tryz.prog 113 [.fs .no 6 (lst prV l), .clo 58 []] [] (bool true) [] := by
  refine spec_of_run ttok mixed (T0 := 8389171) (ts := [.tmp 4]) 24 rfl rfl rfl rfl (by simp) rfl ?_
  conv => whnf
  repeat' (first | ((with_reducible apply Frz.l) <;> conv => whnf) | fail)
  refine LoopN.unr 2 ttok mixed (T0 := 8389171) ?_
  conv => whnf
  repeat' (first | with_reducible apply True.intro | ((first | ((with_reducible apply Nm.mk); focus ((try simp only [lns]); exact rfl)) | ((with_reducible apply Bif.dec) <;> intro h <;> (try simp only [lns] at h) <;> (try (exfalso; omega))) | (apply Same.bool; focus (with_reducible rfl)) | (with_reducible apply Frz.l)) <;> conv => whnf) | fail)
theorem k_keyOf (g : Grd) : Con Tryz.prog 52 [grdV g, .v (.int .u8 1)] [] (.tup [keyV K1, bool true]) [] := by
  refine spec_of_run ttok mixed (T0 := 270007) (ts := [.cell 4 126, .tmp 5]) 23 rfl rfl rfl rfl (by simp) rfl ?_
  conv => whnf
  repeat' (first | ((first | ((with_reducible apply Nm.mk); focus ((try simp only [lns]); exact rfl)) | (with_reducible apply Frz.l)) <;> conv => whnf) | fail)
  refine LoopN.unr 2 ttok mixed (T0 := 270007) ?_
  conv => whnf
  repeat' (first | with_reducible apply True.intro | ((apply Elem.mk _ rfl); (conv => whnf)) | ((apply Need.mk (by decide)); (conv => whnf)) | ((apply Same.mk rfl); (conv => whnf)) | ((first | ((with_reducible apply Nm.mk); focus ((try simp only [lns]); exact rfl)) | ((with_reducible first | apply Bif.dec | apply Bif.beq) <;> intro h <;> (try simp only [lns] at h) <;> (try (exfalso; omega))) | (with_reducible apply Frz.l)) <;> conv => whnf) | fail)
theorem and32 {a : Nat} (ha : a ≤ 4294967295) : IntKind.wrap .u32 ((BitVec.ofInt (IntKind.bits .u32) (a : Int) &&& BitVec.ofInt (IntKind.bits .u32) 1).toNat) = ((a % 2 : Nat) : Int) := by
  have w : ∀ y : Nat, y ≤ 4294967295 → IntKind.wrap .u32 (y : Int) = (y : Int) := fun y hy => by simp [IntKind.wrap, IntKind.bits, IntKind.signed]; omega
  rw [BitVec.toNat_and, show IntKind.bits .u32 = 32 from rfl, BitVec.ofInt_natCast, show BitVec.ofInt 32 1 = BitVec.ofNat 32 1 from rfl, BitVec.toNat_ofNat, BitVec.toNat_ofNat, Nat.mod_eq_of_lt (by omega), Nat.mod_eq_of_lt (by omega), Nat.and_one_is_mod, w _ (by omega)]
theorem k_d0Valid : Con Tryz.prog 129 [d0V] [] (bool true) [] := k_lnkValid D0
theorem k_d0isB : Con Tryz.prog 130 [d0V] [] (bool false) [] := k_isB D0
theorem k_validPeer (g : Grd) (p : Pr) (hw : p.win % 2 = 1 ∧ p.win ≤ 4294967295) : Con Tryz.prog 114 [grdV g, prV p] [] (bool true) [] := by
  have e := and32 hw.2
  refine spec_of_run ttok mixed (T0 := 2097247) (ts := [.tmp 4]) 36 rfl rfl rfl rfl (by simp) rfl ?_
  conv => whnf
  repeat' (first | with_reducible apply True.intro | ((apply Same.bool (by rw [e, hw.1]; rfl)); (conv => whnf)) | ((first | (apply CallN.mk (k_d0Valid)) | (apply CallN.mk (k_d0isB)) | (apply CallN.mk (k_keyOf g)) | (with_reducible first | apply Bif.T | apply Bif.F) | ((with_reducible apply Bif.beq) <;> intro h <;> (try simp only [lns] at h) <;> (try (exfalso; omega))) | (with_reducible apply Bif.not) | (with_reducible apply Frz.l)) <;> conv => whnf) | fail)
theorem k_gValid (g : Grd) (h : VG g) : Con Tryz.prog 48 [grdV g] [] (bool true) [] := by
  have ca := k_ascP g.ps h.one
  have hle := h.le
  have cp := fun p hp => k_validPeer g p hp
  have hc := h.cases
  have h1 := h.one
  refine spec_of_run ttok mixed (T0 := 4529045110807) (ts := [.tmp 2]) 44 rfl rfl rfl rfl (by simp) rfl ?_
  conv => whnf
  repeat' (first | ((first | ((with_reducible apply Nm.mk); focus ((try simp only [lns]); exact rfl)) | (apply CallN.mk (k_ascK)) | (apply CallN.mk (ca)) | (with_reducible first | apply Bif.T | apply Bif.F) | ((with_reducible apply Bif.dec) <;> intro h <;> (try simp only [lns] at h) <;> (try (exfalso; omega))) | (with_reducible apply Bif.not) | (with_reducible apply Frz.l)) <;> conv => whnf) | fail)
  refine LoopN.unr 3 ttok mixed (T0 := 4529045110807) ?_
  rcases hc with hp | ⟨p, hp, q1, q2, _⟩
  · rw [hp]
    conv => whnf
    repeat' (first | with_reducible apply True.intro | ((first | ((with_reducible apply Bif.dec) <;> intro h <;> (try simp only [lns] at h) <;> (try (exfalso; omega))) | (apply Same.bool; focus (with_reducible rfl)) | (with_reducible apply Frz.l)) <;> conv => whnf) | fail)
  · obtain ⟨gc, gr, gn, gp⟩ := g
    dsimp only at hp
    subst hp
    conv => whnf
    repeat' (first | with_reducible apply True.intro | ((apply Elem.mk _ rfl); (conv => whnf)) | ((apply Same.mk rfl); (conv => whnf)) | ((first | ((with_reducible apply Nm.mk); focus ((try simp only [lns]); exact rfl)) | ((with_reducible apply Wr.i64); focus omega) | ((with_reducible apply Need.mk); focus (simp only [lns]; omega)) | (apply CallN.mk (cp _ ⟨q1, q2⟩)) | (with_reducible apply Bif.T) | ((with_reducible apply Bif.dec) <;> intro h <;> (try simp only [lns] at h) <;> (try (exfalso; omega))) | (with_reducible apply Bif.not) | (with_reducible apply Frz.l)) <;> conv => whnf) | fail)
end Go.Fw
