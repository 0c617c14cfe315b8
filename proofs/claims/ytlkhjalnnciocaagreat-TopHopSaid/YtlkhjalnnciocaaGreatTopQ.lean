/- The top: pair, sealed, opened. -/
import Derived.Test.YtlkhjalnnciocaaGreatTopN

namespace Go.Fw
open Go.Proofs
set_option maxHeartbeats 8000000
set_option maxRecDepth 8000
def X0 : Grd := ⟨0, 1048576, 0, []⟩
def Y0 : Grd := ⟨0, 1048576, 9, []⟩
def Y1 : Grd := ⟨0, 1048576, 9, [⟨0, 4294967295⟩]⟩
theorem vg_X0 : VG X0 := ⟨by decide, by decide, by decide, by decide, fun p h => by cases h⟩
theorem vg_Y0 : VG Y0 := ⟨by decide, by decide, by decide, by decide, fun p h => by cases h⟩
theorem vg_Y1 : VG Y1 := ⟨by decide, by decide, by decide, by decide, fun p h => by rw [Y1, List.mem_singleton] at h; subst h; decide⟩
/-- The frame that answers a challenge. -/
def frmC (n : Nat) : Frm := ⟨true, false, 0, 0, D1, D0, 0, 0, msgM 2 n, []⟩
/-- A frame of data. -/
def frmD (i : Nat) (b : List UInt8) : Frm := ⟨false, false, UInt8.ofNat i, 1, D1, D0, 0, 0, b, []⟩
theorem ok_C (n : Nat) : OkN (frmC n) := ⟨by show (0 : Nat) ≤ _; decide, by show D1 ≤ _; decide, by show D0 ≤ _; decide, by show (0 : Nat) ≤ _; decide⟩
theorem ok_D (i : Nat) (b : List UInt8) : OkN (frmD i b) := ⟨by show (1 : Nat) ≤ _; decide, by show D1 ≤ _; decide, by show D0 ≤ _; decide, by show (0 : Nat) ≤ _; decide⟩
theorem pay_C (n : Nat) : (frmC n).pay.length ≤ 95 := by show (msgM 2 n).length ≤ _; simp [msgM, beN_len]
theorem ob_lst {α : Type} {f : α → SV} {l : List α} {x : Option Nat} {E : Nat} (g : ∀ a, cl (f a) = true) : cleanOB (.arr x E (Fw.lst f l)) := fun s hs => by
  obtain ⟨a, _, rfl⟩ := List.mem_map.1 hs
  exact g a
theorem ob_all {rows : List SV} {x : Option Nat} {E : Nat} (g : rows.all cl = true) : cleanOB (.arr x E rows) := fun s hs => List.all_eq_true.1 g s hs
theorem cleanL : ∀ {l : List OB}, (l.foldr (fun ob p => cleanOB ob ∧ p) True) → ∀ ob ∈ l, cleanOB ob
  | [], _, _, h => by cases h
  | a :: l, ⟨h1, h2⟩, ob, h => by
    rcases List.mem_cons.1 h with h | h
    · rw [h]; exact h1
    · exact cleanL h2 ob h
theorem k_pair : Con Tryz.prog 8 [int 0, int 1] [] (.tup [grdV (grd1 X0), grdV Y1, bool true]) [] := by
  have c0 := k_device 0 (by decide)
  have c1 := k_device 1 (by decide)
  have cc := k_ChallengeO Y0 vg_Y0
  have cr := k_RespondO 9
  have cs := k_SealO X0 (frmC 9) vg_X0 (by decide) rfl rfl rfl rfl (pay_C 9) (ok_C 9)
  have co := k_Open0O Y0 (sealM X0 (frmC 9)) vg_Y0 rfl (SF.seal vg_X0 (ok_C 9) (pay_C 9) rfl) rfl rfl
  have q1 : CleanP (.tup [grdS (grd1 X0) (.ov 17 2 0 1) (.ov 6 3 0 X0.ps.length), frmS (sealM X0 (frmC 9)) (.ov 1 1 0 (frmC 9).pay.length) (.ov 1 0 0 4), int 0])
      [.arr (some 4) 1 (lst b8 (sealM X0 (frmC 9)).mic), .arr none 1 (lst b8 (frmC 9).pay), .arr none 17 [lk1V], .arr none 6 (lst prV X0.ps)] :=
    ⟨rfl, cleanL ⟨ob_lst fun _ => rfl, ob_lst fun _ => rfl, ob_all rfl, ob_lst fun _ => rfl, trivial⟩⟩
  have q2 : CleanP (.tup [grdS { Y0 with ps := [⟨(sealM X0 (frmC 9)).ctr, 4294967295⟩] } (.ov 17 0 0 1) (.ov 6 1 0 1), int 0]) [.arr none 17 [lk1V], .arr none 6 (lst prV [⟨(sealM X0 (frmC 9)).ctr, 4294967295⟩])] :=
    ⟨rfl, cleanL ⟨ob_all rfl, ob_lst fun _ => rfl, trivial⟩⟩
  have hm := tagM_len K1 (hdrM { frmC 9 with sec := true, ctr := X0.ctr, key := 1, mic := [] })
  refine Con.cl (r := .tup [grdS (grd1 X0) (.ov 17 0 0 1) (.ov 6 1 0 0), grdS Y1 (.ov 17 2 0 1) (.ov 6 3 0 1), bool true]) (hp' := [.arr none 17 [lk1V], .arr none 6 [], .arr none 17 [lk1V], .arr none 6 (lst prV [⟨0, 4294967295⟩])]) ?_
    (.tup (.cons (.aggC (.ov rfl (by decide) rfl .rfl) (.aggC (.wk rfl .rfl) (.aggC (.wk rfl .rfl) (.aggC (.wk rfl .rfl) (.aggC (.ov rfl (by decide) rfl .rfl) .aggN)))))
      (.cons (.aggC (.ov rfl (by decide) rfl .rfl) (.aggC (.wk rfl .rfl) (.aggC (.wk rfl .rfl) (.aggC (.wk rfl .rfl) (.aggC (.all rfl rfl) .aggN))))) (.cons (.wk rfl .rfl) .nil)))) rfl
  refine spec_of_run ttok mixed (T0 := 17592186060787) (ts := [.cell 4 28, .cell 5 28, .tmp 6]) 57 rfl rfl rfl rfl (by simp) rfl ?_
  conv => whnf
  repeat' (first | with_reducible apply True.intro | ((apply Nm.mk (show [SV.agg [SV.v (.int .u8 1), keyV K1]] = [lk1V] from rfl)); (conv => whnf)) | ((apply Need.mk q1); (conv => whnf)) | ((apply Need.mk q2); (conv => whnf)) | ((apply Nm.mk (nm_all (l := (sealM X0 (frmC 9)).mic) hm.symm)); (conv => whnf)) | ((apply Need.mk (by decide)); (conv => whnf)) | ((apply Nm.mk (nm_all (by rfl))); (conv => whnf)) | ((apply Same.mk rfl); (conv => whnf)) | ((first | ((with_reducible apply Need.mk); focus exact CleanP.lst rfl (fun _ => rfl)) | (apply CallN.mk (k_Key1)) | (apply CallN.mk (c0)) | (apply CallN.mk (c1)) | (apply CallN.le (cc); focus ((repeat' (first | (with_reducible apply ArgLe.nil) | (exact ArgLe.nil) | (exact ArgLe.rfl) | (exact ArgLe.fs) | (exact True.intro) | (apply And.intro) | (apply Wk.arg; repeat' (first | (exact Wk.rfl) | (exact Wk.nilS) | (exact Wk.tag) | (apply Wk.cons) | (apply Wk.lits) | (exact WkL.nil) | (apply WkL.cons) | fail)) | fail)); done)) | (apply CallN.mk (cr)) | (apply CallN.le (cs); focus ((repeat' (first | (with_reducible apply ArgLe.nil) | (exact ArgLe.nil) | (exact ArgLe.rfl) | (exact ArgLe.fs) | (exact True.intro) | (apply And.intro) | (apply Wk.arg; repeat' (first | (exact Wk.rfl) | (exact Wk.nilS) | (exact Wk.tag) | (apply Wk.cons) | (apply Wk.lits) | (exact WkL.nil) | (apply WkL.cons) | fail)) | fail)); done)) | (apply CallN.le (co); focus ((repeat' (first | (with_reducible apply ArgLe.nil) | (exact ArgLe.nil) | (exact ArgLe.rfl) | (exact ArgLe.fs) | (exact True.intro) | (apply And.intro) | (apply Wk.arg; repeat' (first | (exact Wk.rfl) | (exact Wk.nilS) | (exact Wk.tag) | (apply Wk.cons) | (apply Wk.lits) | (exact WkL.nil) | (apply WkL.cons) | fail)) | fail)); done)) | (with_reducible first | apply Bif.T | apply Bif.F) | ((with_reducible apply Bif.bne) <;> intro h <;> (try simp only [lns] at h) <;> (try (exfalso; omega))) | (with_reducible apply Bif.not) | (with_reducible first | apply Cut.l | apply GiveN.lend) | (with_reducible apply Frz.l)) <;> conv => whnf) | fail)
  done
end Go.Fw

/- The top: sealed, opened. -/
namespace Go.Fw
open Go.Proofs
set_option maxHeartbeats 8000000
set_option maxRecDepth 8000
def gN (g : Grd) (i : Nat) : Grd := { g with ctr := g.ctr + i }
/-- The i-th sealed frame. -/
def frI (g : Grd) (P : List (List UInt8)) (i : Nat) : Frm := sealM (gN g i) (frmD i (gt P i))
def encL (g : Grd) (P : List (List UInt8)) (k : Nat) : List (List UInt8) := (List.range k).map fun i => encM (frI g P i)
theorem encL_len (g : Grd) (P : List (List UInt8)) (k : Nat) : (encL g P k).length = k := by simp [encL]
theorem encL_succ (g : Grd) (P : List (List UInt8)) (k : Nat) : encL g P (k + 1) = encL g P k ++ [encM (frI g P k)] := by simp [encL, List.range_succ]
theorem VG.gN {g : Grd} (h : VG g) {i : Nat} (hr : g.ctr + i ≤ g.res) : VG (gN g i) := ⟨hr, h.res, h.non, h.one, h.odd⟩
theorem frI_SF {g : Grd} {P : List (List UInt8)} {i : Nat} (h : VG g) (hr : g.ctr + i ≤ g.res) (hp : (gt P i).length ≤ 95) : SF (frI g P i) :=
  SF.seal (h.gN hr) (ok_D _ _) hp rfl
theorem k_sealed (g : Grd) (P : List (List UInt8)) (t : Tg) (h : VG g) (hr : g.ctr + P.length ≤ g.res) (hP : ∀ b ∈ P, b.length ≤ 95) (hl : P.length ≤ 1000) :
    Con Tryz.prog 9 [grdV g, int 0, int 1, .fs t 1 (lst bys P)] [] (.tup [grdV (gN g P.length), .fs .no 1 (lst bys (encL g P P.length)), bool true]) [] := by
  have c0 := k_device 0 (by decide)
  have c1 := k_device 1 (by decide)
  refine Con.cl (r := .tup [grdV (gN g P.length), .ov 1 0 0 P.length, bool true]) (hp' := [.arr none 1 (lst bys (encL g P P.length))]) ?_
    (.tup (.cons (.wk rfl .rfl) (.cons (.all rfl (encL_len _ _ _).symm) (.cons (.wk rfl .rfl) .nil)))) rfl
  refine spec_of_run ttok mixed (T0 := 2251799816044319) (ts := [.cell 8 28, .tmp 9, .tmp 10]) 60 rfl rfl rfl rfl (by simp) rfl ?_
  conv => whnf
  repeat' (first | ((with_reducible apply Frz.l) <;> conv => whnf) | fail)
  refine LoopN.adopt 11 1 rfl (by simp) ?_
  refine loop_keep ttok mixed (T0 := 2251799816044319) [1, 2, 3] (ι := {k : Nat // k ≤ P.length})
    (fun k => [(12, int (k.1 : Int)), (4, .pb 0 []), (8, .pb 1 []), (11, .ov 1 2 0 k.1)]) (fun k => [.cells (grdV (gN g k.1)), .cells grd0V, .arr none 1 (lst bys (encL g P k.1))]) (fun k => P.length - k.1) ⟨0, by omega⟩ ?_
  conv => whnf
  repeat' (first | ((apply Same.mk rfl); (conv => whnf)) | ((with_reducible apply Frz.l) <;> conv => whnf) | fail)
  rintro ⟨k, hk⟩
  dsimp only
  conv => whnf
  by_cases hkn : k < P.length
  · have hb := hP _ (gt_mem hkn)
    have cs := k_Seal (gN g k) (frmD k (gt P k)) (h.gN (by omega)) (by show g.ctr + k < g.res; omega) rfl rfl rfl rfl hb (ok_D _ _)
    have sf := frI_SF (i := k) h (by omega) hb
    have ce := k_frEncode (frI g P k) sf.sec sf.pay sf.mlen sf.ok
    have es : encL g P (k + 1) = encL g P k ++ [encM (frI g P k)] := encL_succ g P k
    repeat' (first | ((with_reducible apply Wr.i64); (focus omega); (conv => whnf)) | ((apply Wr.eq (u8lo _)); (conv => whnf)) | ((first | (with_reducible apply Nm.snoc _ (rfl)) | ((with_reducible apply Nm.mk); focus ((try simp only [lns, encL_len]); exact rfl)) | ((with_reducible apply Need.mk); focus first | (simp only [lns, encL_len]; omega) | kernel_rfl | (unfold roomOK; simp only [lns, encL_len]; omega)) | ((with_reducible apply Elem.lst); focus omega) | (apply CallN.mk (c0)) | (apply CallN.mk (c1)) | (apply CallN.le (cs); focus ((repeat' (first | (with_reducible apply ArgLe.nil) | (exact ArgLe.nil) | (exact ArgLe.rfl) | (exact ArgLe.fs) | (exact True.intro) | (apply And.intro) | (apply Wk.arg; repeat' (first | (exact Wk.rfl) | (exact Wk.nilS) | (exact Wk.tag) | (apply Wk.cons) | (apply Wk.lits) | (exact WkL.nil) | (apply WkL.cons) | fail)) | fail)); done)) | (apply CallN.mk (ce)) | (with_reducible apply Bif.F) | ((with_reducible first | apply Bif.dec | apply Bif.bne) <;> intro h <;> (try simp only [lns, encL_len] at h) <;> (try (exfalso; omega))) | (with_reducible apply Alt.l) | (with_reducible apply Frz.l)) <;> conv => whnf) | fail)
    (refine ⟨⟨k + 1, by omega⟩, ?_⟩; (try dsimp only); conv => whnf); repeat' (first | with_reducible apply True.intro | ((apply Same.mk (by rw [es])); (conv => whnf)) | ((apply Same.mk rfl); (conv => whnf)) | ((first | ((with_reducible apply Need.mk); focus omega) | (with_reducible apply Turn.l) | (with_reducible apply Frz.l)) <;> conv => whnf) | fail)
    done
  · obtain rfl : k = P.length := by omega
    repeat' (first | with_reducible apply True.intro | ((apply Same.mk rfl); (conv => whnf)) | ((first | ((with_reducible apply Nm.mk); focus ((try simp only [lns, encL_len]); exact rfl)) | ((with_reducible apply Bif.dec) <;> intro h <;> (try simp only [lns, encL_len] at h) <;> (try (exfalso; omega))) | (with_reducible apply Cut.l) | (with_reducible apply Frz.l)) <;> conv => whnf) | fail)
    done
theorem k_opened (g : Grd) (p : Pr) (f : Frm) (h : VG g) (hp : g.ps = [p]) (hf : SF f) :
    Con Tryz.prog 13 [grdV g, bys (encM f)] [] (if seenP p f.ctr = true then .tup [grdV g, nilV, bool false] else .tup [grdV { g with ps := [accM p f.ctr] }, bys f.pay, bool true]) [] := by
  have cd := k_frDecode f hf.sec hf.pay hf.mlen hf.ok
  have co := k_Open1 g p f h hp hf
  by_cases hs : seenP p f.ctr = true
  · rw [if_pos hs] at co ⊢
    refine spec_of_run ttok mixed (T0 := 33620983) (ts := [.cell 4 28, .tmp 5, .tmp 6]) 30 rfl rfl rfl rfl (by simp) rfl ?_
    conv => whnf
    repeat' (first | with_reducible apply True.intro | ((apply Same.mk rfl); (conv => whnf)) | ((first | (apply CallN.mk (cd)) | (apply CallN.mk (co)) | ((with_reducible apply Bif.bne) <;> intro h <;> (try simp only [lns] at h) <;> (try (exfalso; omega))) | (with_reducible apply Frz.l)) <;> conv => whnf) | fail)
  · rw [if_neg hs] at co ⊢
    refine spec_of_run ttok mixed (T0 := 33620983) (ts := [.cell 4 28, .tmp 5, .tmp 6]) 30 rfl rfl rfl rfl (by simp) rfl ?_
    conv => whnf
    repeat' (first | with_reducible apply True.intro | ((apply Same.mk rfl); (conv => whnf)) | ((first | ((with_reducible apply Need.mk); focus kernel_rfl) | (apply CallN.mk (cd)) | (apply CallN.mk (co)) | ((with_reducible apply Bif.bne) <;> intro h <;> (try simp only [lns] at h) <;> (try (exfalso; omega))) | (with_reducible apply Frz.l)) <;> conv => whnf) | fail)
end Go.Fw

/- Prefixes, destinations, distances, as plain data; masks. -/
namespace Go.Fw
set_option maxRecDepth 4000
open Go.Proofs
structure Pfx where
  ip : IP
  bits : Int
  deriving DecidableEq, Inhabited
def pfxV (p : Pfx) : SV := .agg [ipV p.ip, .v (.int .i64 p.bits)]
def pfx0 : Pfx := ⟨ip0, 0⟩
theorem pfx_ext {a b : Pfx} (h1 : a.ip = b.ip) (h2 : a.bits = b.bits) : a = b := by cases a; cases b; simp_all
theorem pfx_eq (a b : Pfx) : (a.ip.1 == b.ip.1 && (a.bits == b.bits && true)) = decide (a = b) := by
  rw [Bool.eq_iff_iff]
  simp only [Bool.and_eq_true, beq_iff_eq, decide_eq_true_eq, and_true]
  exact ⟨fun ⟨h1, h2⟩ => pfx_ext (ip_ext h1) h2, fun h => by subst h; simp⟩
/-! ### Masks -/
/-- How many of the first so many bits lie in byte i. -/
def keepN (bits i : Int) : Int := min (max (bits - 8 * i) 0) 8
/-- The first k bits of a byte. -/
def cutB (x k : Int) : Int := x - x % 2 ^ (8 - k.toNat)
def maskL (l : List Int) (bits : Int) : List Int := (List.range 16).map fun i => cutB (gt l i) (keepN bits i)
theorem keepN_range (b i : Int) : 0 ≤ keepN b i ∧ keepN b i ≤ 8 := by unfold keepN; omega
theorem fin_ex {x n : Int} (h : 0 ≤ x ∧ x < n) : ∃ y : Fin n.toNat, x = (y.1 : Int) := ⟨⟨x.toNat, by omega⟩, by simp; omega⟩
theorem cutB_all : ∀ (x : Fin 256) (k : Fin 9), 0 ≤ cutB (x.1 : Int) (k.1 : Int) ∧ cutB (x.1 : Int) (k.1 : Int) ≤ 255 ∧
    IntKind.wrap .u8 ((BitVec.ofInt 8 (x.1 : Int) &&& ~~~ BitVec.ofInt 8 (Int.fdiv 255 (2 ^ (min k.1 8)))).toNat) = cutB (x.1 : Int) (k.1 : Int) := by decide +kernel
theorem cutB_range {x k : Int} (hx : 0 ≤ x ∧ x ≤ 255) (hk : 0 ≤ k ∧ k ≤ 8) : 0 ≤ cutB x k ∧ cutB x k ≤ 255 := by
  obtain ⟨y, rfl⟩ := fin_ex (n := 256) (x := x) (by omega)
  obtain ⟨z, rfl⟩ := fin_ex (n := 9) (x := k) (by omega)
  have := cutB_all y z
  exact ⟨this.1, this.2.1⟩
theorem cutB_is {x k : Int} (hx : 0 ≤ x ∧ x ≤ 255) (hk : 0 ≤ k ∧ k ≤ 8) : IntKind.wrap .u8 ((BitVec.ofInt 8 x &&& ~~~ BitVec.ofInt 8 (Int.fdiv 255 (2 ^ (min k.toNat 8)))).toNat) = cutB x k := by
  obtain ⟨y, rfl⟩ := fin_ex (n := 256) (x := x) (by omega)
  obtain ⟨z, rfl⟩ := fin_ex (n := 9) (x := k) (by omega)
  exact (cutB_all y z).2.2
theorem maskL_len (l : List Int) (b : Int) : (maskL l b).length = 16 := by simp [maskL]
theorem gt_maskL {l : List Int} {b : Int} {i : Nat} (hi : i < 16) : gt (maskL l b) i = cutB (gt l i) (keepN b i) := by
  rw [gt_eq (by rw [maskL_len]; exact hi)]
  simp [maskL]
theorem byte_gt {a : IP} {i : Nat} (hi : i < 16) : 0 ≤ gt a.1 i ∧ gt a.1 i ≤ 255 := a.2.2 _ (gt_mem (by rw [a.2.1]; exact hi))
theorem maskL_ok (a : IP) (b : Int) : (maskL a.1 b).length = 16 ∧ ∀ x ∈ maskL a.1 b, 0 ≤ x ∧ x ≤ 255 := by
  refine ⟨maskL_len _ _, fun x hx => ?_⟩
  simp only [maskL, List.mem_map, List.mem_range] at hx
  obtain ⟨i, hi, rfl⟩ := hx
  exact cutB_range (byte_gt hi) (keepN_range _ _)
def maskI (a : IP) (b : Int) : IP := ⟨maskL a.1 b, maskL_ok a b⟩
/-- address.Mask -/
def maskP (a : IP) (b : Int) : Pfx := ⟨maskI a (min (max b 0) 128), min (max b 0) 128⟩
def vPfx (p : Pfx) : Bool := decide (0 ≤ p.bits ∧ p.bits ≤ 128 ∧ maskI p.ip p.bits = p.ip)
/-- The bit i of an address. -/
def bitI (a : IP) (i : Nat) : Int := (gt a.1 (i / 8)).fdiv (2 ^ (7 - i % 8)) % 2
end Go.Fw

/- Prefixes: address.Mask, ValidPrefix on both sides. -/
namespace Go.Fw
set_option maxRecDepth 4000
open Go.Proofs
set_option maxHeartbeats 4000000
/-- The first k bytes, masked. -/
def mIP (l : List Int) (b : Int) (k : Nat) : List Int := (List.range 16).map fun i => if i < k then cutB (gt l i) (keepN b i) else 0
theorem mIP_zero (l : List Int) (b : Int) : mIP l b 0 = List.replicate 16 0 := by
  rfl
theorem mIP_all (l : List Int) (b : Int) : mIP l b 16 = maskL l b := by
  apply List.map_congr_left
  intro i hi
  rw [if_pos (List.mem_range.1 hi)]
theorem mIP_succ {l : List Int} {b : Int} {k : Nat} (hk : k < 16) : (mIP l b k).set k (cutB (gt l k) (keepN b k)) = mIP l b (k + 1) := by
  apply List.ext_getElem?
  intro i
  rw [List.getElem?_set]
  simp only [mIP, List.length_map, List.length_range, List.getElem?_map]
  by_cases hi : k = i
  · subst hi
    simp [hk]
  · rw [if_neg hi]
    by_cases h16 : i < 16
    · rw [List.getElem?_range h16]
      simp only [Option.map_some]
      congr 1
      by_cases h1 : i < k
      · rw [if_pos h1, if_pos (by omega)]
      · rw [if_neg h1, if_neg (by omega)]
    · rw [List.getElem?_eq_none (by simpa using h16)]; rfl
theorem mIP_step {a : IP} {c : Int} {k : Nat} (hk : k < 16) : (mIP a.1 c k).set k (IntKind.wrap .u8 ((BitVec.ofInt (IntKind.bits .u8) (a.1.getD k 0) &&& ~~~BitVec.ofInt (IntKind.bits .u8) (Int.fdiv 255 (2 ^ min (min (max (c - 8 * (k : Int)) 0) 8).toNat (IntKind.bits .u8)))).toNat)) = mIP a.1 c (k + 1) := by
  rw [← mIP_succ hk, ← cutB_is (byte_gt hk) (keepN_range c k)]
  rfl
theorem k_Mask (a : IP) (b : Int) : Con Tryz.prog 126 [ipV a, int b] [] (pfxV (maskP a b)) [] := by
  have la := a.2.1
  refine spec_of_run ttok mixed (T0 := 12535) (ts := [.cell 4 70]) 33 rfl rfl rfl rfl (by simp) rfl ?_
  conv => whnf
  repeat' (first | ((with_reducible apply Frz.l) <;> conv => whnf) | fail)
  obtain ⟨c, hc⟩ : ∃ c, c = min (max b 0) 128 := ⟨_, rfl⟩
  refine loop_keep ttok mixed (T0 := 12535) [] (ι := {k : Nat // k ≤ 16})
    (fun k => [(12, int (k.1 : Int)), (2, .pb 0 []), (4, .pb 1 []), (5, .pb 2 [])]) (fun k => [.cells (ipV a), .cells (pfxV pfx0), .cells (.agg [.ba 16 (mIP a.1 c k.1), .v (.int .i64 c)])]) (fun k => 16 - k.1) ⟨0, by omega⟩ ?_
  conv => whnf
  repeat' (first | ((apply Same.mk (by rw [mIP_zero, hc]; rfl)); (conv => whnf)) | ((first | (with_reducible apply Same.rfl) | (apply Same.int; focus rfl) | (apply Same.rfl) | (with_reducible apply Frz.l)) <;> conv => whnf) | fail)
  rintro ⟨k, hk⟩
  dsimp only
  conv => whnf
  repeat' (first | ((first | ((with_reducible apply Nm.mk); focus ((try simp only [lns]); exact rfl)) | ((with_reducible apply Wr.i64); focus omega) | ((with_reducible apply Need.mk); focus first | omega | kernel_rfl) | ((with_reducible apply Bif.dec) <;> intro h <;> (try simp only [lns] at h)) | (with_reducible apply Frz.l)) <;> conv => whnf) | fail)
  · (refine ⟨⟨k + 1, by omega⟩, ?_⟩; (try dsimp only); conv => whnf); repeat' (first | with_reducible apply True.intro | ((apply Same.mk (by rw [mIP_step (by omega)])); (conv => whnf)) | ((first | ((with_reducible apply Need.mk); focus omega) | (with_reducible apply Same.rfl) | (apply Same.int; focus rfl) | (with_reducible apply Turn.l) | (with_reducible apply Frz.l)) <;> conv => whnf) | fail)
  · have e : k = 16 := by omega
    subst e
    rw [mIP_all, hc]
    repeat' (first | with_reducible apply True.intro | ((first | (apply Same.int; focus rfl) | (apply Same.rfl) | (with_reducible apply Frz.l)) <;> conv => whnf) | fail)
theorem maskP_eq {p : Pfx} (h : 0 ≤ p.bits ∧ p.bits ≤ 128) : decide (maskP p.ip p.bits = p) = vPfx p := by
  rw [Bool.eq_iff_iff, decide_eq_true_eq, vPfx, decide_eq_true_eq]
  have e : min (max p.bits 0) 128 = p.bits := by omega
  constructor
  · intro g
    refine ⟨h.1, h.2, ?_⟩
    have := congrArg Pfx.ip g
    rwa [show (maskP p.ip p.bits).ip = maskI p.ip (min (max p.bits 0) 128) from rfl, e] at this
  · rintro ⟨_, _, g⟩
    exact pfx_ext (by rw [show (maskP p.ip p.bits).ip = maskI p.ip (min (max p.bits 0) 128) from rfl, e, g]) e
theorem vPfx_out {p : Pfx} (h : ¬ (0 ≤ p.bits ∧ p.bits ≤ 128)) : vPfx p = false := by
  rw [vPfx, decide_eq_false_iff_not]; exact fun g => h ⟨g.1, g.2.1⟩
theorem k_ValidPrefix (p : Pfx) : Con Tryz.prog 124 [pfxV p] [] (bool (vPfx p)) [] := by
  refine spec_of_run ttok mixed (T0 := 7) (ts := [.tmp 2]) 20 rfl rfl rfl rfl (by simp) rfl ?_
  conv => whnf
  repeat' (first | ((first | ((with_reducible apply Need.mk); focus kernel_rfl) | (apply CallN.mk (k_Mask _ _)) | (with_reducible first | apply Bif.T | apply Bif.F) | ((with_reducible apply Bif.dec) <;> intro h <;> (try simp only [lns] at h)) | (with_reducible apply Frz.l)) <;> conv => whnf) | fail)
  · apply Same.bool (by rw [pfx_eq, maskP_eq ⟨by omega, by omega⟩]); (conv => whnf); repeat' (first | with_reducible apply True.intro | ((with_reducible apply Frz.l) <;> conv => whnf) | fail)
  · apply Same.bool (vPfx_out (by omega)).symm; (conv => whnf); repeat' (first | with_reducible apply True.intro | ((with_reducible apply Frz.l) <;> conv => whnf) | fail)
  · apply Same.bool (vPfx_out (by omega)).symm; (conv => whnf); repeat' (first | with_reducible apply True.intro | ((with_reducible apply Frz.l) <;> conv => whnf) | fail)
theorem and1_all : ∀ (x : Fin 256) (r : Fin 8), IntKind.wrap .u8 ((BitVec.ofInt 8 (Int.fdiv (x.1 : Int) (2 ^ (min (7 - r.1) 8))) &&& BitVec.ofInt 8 1).toNat) = (x.1 : Int).fdiv (2 ^ (7 - r.1)) % 2 := by decide +kernel
theorem and1 {x : Int} {r : Nat} (hx : 0 ≤ x ∧ x ≤ 255) (hr : r < 8) : IntKind.wrap .u8 ((BitVec.ofInt 8 (Int.fdiv x (2 ^ (min (7 - r) 8))) &&& BitVec.ofInt 8 1).toNat) = x.fdiv (2 ^ (7 - r)) % 2 := by
  obtain ⟨y, rfl⟩ := fin_ex (n := 256) (x := x) (by omega)
  exact and1_all y ⟨r, hr⟩
theorem k_bit (a : IP) (i : Nat) (hi : i < 128) : Con Tryz.prog 127 [ipV a, int i] [] (.v (.int .u8 (bitI a i))) [] := by
  have e1 : (i : Int).tdiv 8 = ((i / 8 : Nat) : Int) := by rw [Int.tdiv_eq_ediv_of_nonneg (by omega)]; omega
  have e2 : (i : Int).tmod 8 = ((i % 8 : Nat) : Int) := by rw [Int.tmod_eq_emod_of_nonneg (by omega)]; omega
  have hw1 : IntKind.wrap .i64 ((i : Int).tdiv 8) = ((i / 8 : Nat) : Int) := by rw [e1, wrap64_id (by omega)]
  have hw2 : IntKind.wrap .u64 ((i : Int).tmod 8) = ((i % 8 : Nat) : Int) := by rw [e2]; simp [IntKind.wrap, IntKind.bits, IntKind.signed]; omega
  have e3 : ((7 : Int) - ((i % 8 : Nat) : Int)).toNat = 7 - i % 8 := by omega
  refine spec_of_run ttok mixed (T0 := 23) (ts := [.tmp 4]) 15 rfl rfl rfl rfl (by simp) rfl ?_
  conv => whnf
  repeat' (first | ((apply Wr.eq hw1); (conv => whnf)) | ((apply Wr.eq hw2); (conv => whnf)) | ((first | ((with_reducible apply Nm.mk); focus ((try simp only [lns]); exact rfl)) | ((with_reducible apply Wr.u64); focus omega) | ((with_reducible apply Need.mk); focus omega) | (with_reducible apply Frz.l)) <;> conv => whnf) | fail)
  all_goals (apply Same.int (by rw [e3]; exact and1 (byte_gt (by omega)) (by omega)); (conv => whnf); repeat' (first | with_reducible apply True.intro | ((with_reducible apply Frz.l) <;> conv => whnf) | fail))
end Go.Fw

/- Addresses: the reference's Split, Of, Join, Mask. -/
namespace Go.Fw
open Go.Proofs
set_option maxHeartbeats 4000000
set_option maxRecDepth 4000
/-- The first k bytes of a number. -/
def be8 (v : Int) (k : Nat) : List Int := (List.range 8).map fun i => if i < k then v / 2 ^ (8 * (7 - i)) % 256 else 0
theorem be8_len (v : Int) (k : Nat) : (be8 v k).length = 8 := by simp [be8]
theorem be8_succ {v : Int} {k : Nat} (hk : k < 8) : (be8 v k).set k (v / 2 ^ (8 * (7 - k)) % 256) = be8 v (k + 1) := by
  apply List.ext_getElem?
  intro i
  rw [List.getElem?_set]
  simp only [be8, List.length_map, List.length_range, List.getElem?_map]
  by_cases hi : k = i
  · subst hi
    simp [hk]
  · rw [if_neg hi]
    by_cases h16 : i < 8
    · rw [List.getElem?_range h16]
      simp only [Option.map_some]
      congr 1
      by_cases h1 : i < k
      · rw [if_pos h1, if_pos (by omega)]
      · rw [if_neg h1, if_neg (by omega)]
    · rw [List.getElem?_eq_none (by simpa using h16)]; rfl
theorem wrap8 (x : Int) : IntKind.wrap .u8 x = x % 256 := by
  simp [IntKind.wrap, IntKind.bits, IntKind.signed]
theorem be8_byt (v : Int) (k : Nat) : ∀ x ∈ be8 v k, 0 ≤ x ∧ x ≤ 255 := fun x hx => by
  obtain ⟨i, _, rfl⟩ := List.mem_map.1 hx
  split
  · omega
  · omega
/-- The first 64 bits of an address, and a number. -/
def ipJ (a : IP) (v : Int) : IP := ⟨a.1.take 8 ++ be8 v 8, by simp [be8_len, a.2.1], fun x hx => by
  rcases List.mem_append.1 hx with h | h
  · exact a.2.2 x (List.mem_of_mem_take h)
  · exact be8_byt v 8 x h⟩
theorem wrap64u {x : Int} (h : 0 ≤ x ∧ x < 18446744073709551616) : IntKind.wrap .u64 x = x := by
  have : IntKind.wrap .u64 x = x % 18446744073709551616 := by simp [IntKind.wrap, IntKind.bits, IntKind.signed]
  rw [this]; omega
theorem shrOf (v : Int) {k : Nat} (hk : k < 8) : IntKind.wrap .u8 (v.fdiv (2 ^ min (56 - 8 * (k : Int)).toNat IntKind.u64.bits)) = v / 2 ^ (8 * (7 - k)) % 256 := by
  have e : min (56 - 8 * (k : Int)).toNat IntKind.u64.bits = 8 * (7 - k) := by
    show min _ 64 = _
    omega
  rw [e, wrap8, Int.fdiv_eq_ediv_of_nonneg _ (Int.le_of_lt (Int.pow_pos (by decide)))]
theorem set2 {x y : Int} {k : Nat} (hk : k < 8) : ((be8 x k ++ be8 y k).set k (x / 2 ^ (8 * (7 - k)) % 256)).set (8 + (k : Int)).toNat (y / 2 ^ (8 * (7 - k)) % 256) = be8 x (k + 1) ++ be8 y (k + 1) := by
  have l1 := be8_len x k
  rw [show (8 + (k : Int)).toNat = 8 + k by omega, List.set_append_left _ _ (by omega), be8_succ hk, List.set_append_right _ _ (by rw [be8_len]; omega), be8_len, show 8 + k - 8 = k by omega, be8_succ hk]
theorem k_Of (x y : Int) : Con Tryz.prog 29 [.v (.int .u64 x), .v (.int .u64 y)] [] (.ba 16 (be8 x 8 ++ be8 y 8)) [] := by
  have l1 : ∀ k, (be8 x k ++ be8 y k).length = 16 := fun k => by rw [List.length_append, be8_len, be8_len]
  refine spec_of_run ttok mixed (T0 := 371) (ts := [.cell 4 67]) 31 rfl rfl rfl rfl (by simp) rfl ?_
  conv => whnf
  repeat' (first | ((with_reducible apply Frz.l) <;> conv => whnf) | fail)
  refine loop_keep ttok mixed (T0 := 371) [0, 1] (ι := {k : Nat // k ≤ 8})
    (fun k => [(4, .pb 0 []), (5, .pb 1 []), (6, int (k.1 : Int))]) (fun k => [.cells (.ba 16 (List.replicate 16 0)), .cells (.ba 16 (be8 x k.1 ++ be8 y k.1))]) (fun k => 8 - k.1) ⟨0, by omega⟩ ?_
  conv => whnf
  repeat' (first | ((apply Same.mk rfl); (conv => whnf)) | ((with_reducible apply Frz.l) <;> conv => whnf) | fail)
  rintro ⟨k, hk⟩
  dsimp only
  conv => whnf
  by_cases hk8 : k < 8
  · repeat' (first | ((apply Wr.eq (shrOf x hk8)); (conv => whnf)) | ((apply Wr.eq (shrOf y hk8)); (conv => whnf)) | ((apply Wr.eq (wrap64u (by omega))); (conv => whnf)) | ((first | ((with_reducible apply Nm.mk); focus ((try simp only [lns, be8_len]); exact rfl)) | ((with_reducible apply Wr.i64); focus omega) | ((with_reducible apply Need.mk); focus omega) | ((with_reducible apply Bif.dec) <;> intro h <;> (try simp only [lns, be8_len] at h) <;> (try (exfalso; omega))) | (with_reducible apply Frz.l)) <;> conv => whnf) | fail)
    (refine ⟨⟨k + 1, by omega⟩, ?_⟩; (try dsimp only); conv => whnf); repeat' (first | with_reducible apply True.intro | ((apply Same.mk (by rw [set2 hk8])); (conv => whnf)) | ((apply Same.mk rfl); (conv => whnf)) | ((first | ((with_reducible apply Need.mk); focus omega) | (with_reducible apply Turn.l) | (with_reducible apply Frz.l)) <;> conv => whnf) | fail)
  · have e : k = 8 := by omega
    subst e
    repeat' (first | with_reducible apply True.intro | ((first | ((with_reducible apply Bif.dec) <;> intro h <;> (try simp only [lns, be8_len] at h) <;> (try (exfalso; omega))) | (with_reducible apply Same.rfl) | (with_reducible apply Frz.l)) <;> conv => whnf) | fail)
/-! The reference's Mask -/
theorem or_all : ∀ (x : Fin 256) (r : Fin 8), IntKind.wrap .u8 ((x.1 : Int).fdiv (2 ^ (7 - r.1)) % 2 * 2 ^ (min (7 - r.1) 8)) = (x.1 : Int).fdiv (2 ^ (7 - r.1)) % 2 * 2 ^ (7 - r.1) ∧
    IntKind.wrap .u8 ((BitVec.ofInt 8 (cutB (x.1 : Int) (r.1 : Int)) ||| BitVec.ofInt 8 ((x.1 : Int).fdiv (2 ^ (7 - r.1)) % 2 * 2 ^ (7 - r.1))).toNat) = cutB (x.1 : Int) ((r.1 : Int) + 1) := by decide +kernel
theorem maskL_zero (a : IP) : maskL a.1 0 = List.replicate 16 0 := by
  apply List.ext_getElem?
  intro i
  by_cases hi : i < 16
  · rw [List.getElem?_replicate, if_pos hi, List.getElem?_eq_getElem (by rw [maskL_len]; exact hi), ← gt_eq, gt_maskL hi]
    have := byte_gt (a := a) hi
    have e : keepN 0 i = 0 := by unfold keepN; omega
    rw [e]
    congr 1
    simp only [cutB, Int.toNat_zero, Nat.sub_zero]
    omega
  · rw [List.getElem?_eq_none (by rw [maskL_len]; omega), List.getElem?_eq_none (by simp; omega)]
theorem maskL_step (a : IP) {i : Nat} (hi : i < 128) : (maskL a.1 i).set (i / 8) (cutB (gt a.1 (i / 8)) ((i % 8 : Nat) + 1)) = maskL a.1 ((i : Int) + 1) := by
  apply ext_gt (by simp [maskL_len])
  intro j hj
  rw [List.length_set, maskL_len] at hj
  rw [gt_set (by rw [maskL_len]; omega), gt_maskL hj, gt_maskL hj]
  split
  · rename_i h; subst h
    congr 1
    unfold keepN; omega
  · congr 1
    unfold keepN; omega
theorem k_ref04_Mask (a : IP) (b : Int) : Con Tryz.prog 67 [ipV a, int b] [] (pfxV (maskP a b)) [] := by
  refine spec_of_run ttok mixed (T0 := 16503) (ts := [.cell 4 70]) 34 rfl rfl rfl rfl (by simp) rfl ?_
  conv => whnf
  repeat' (first | ((with_reducible apply Frz.l) <;> conv => whnf) | fail)
  obtain ⟨c, hc⟩ : ∃ c, c = min (max b 0) 128 := ⟨_, rfl⟩
  refine loop_keep ttok mixed (T0 := 16503) [] (ι := {k : Nat // k ≤ c})
    (fun k => [(6, int (k.1 : Int)), (1, int c), (2, .pb 0 []), (4, .pb 1 []), (5, .pb 2 [])]) (fun k => [.cells (ipV a), .cells (pfxV pfx0), .cells (.agg [.ba 16 (maskL a.1 k.1), .v (.int .i64 c)])]) (fun k => (c - k.1).toNat) ⟨0, by omega⟩ ?_
  conv => whnf
  repeat' (first | ((apply Same.mk (by rw [show ((0 : Nat) : Int) = 0 from rfl, maskL_zero, hc]; rfl)); (conv => whnf)) | ((apply Same.mk (by rw [hc]; rfl)); (conv => whnf)) | ((first | (with_reducible apply Same.rfl) | (apply Same.int; focus rfl) | (apply Same.rfl) | (with_reducible apply Frz.l)) <;> conv => whnf) | fail)
  rintro ⟨k, hk⟩
  dsimp only
  by_cases hkc : k < c
  · have e1 : (k : Int).tdiv 8 = ((k / 8 : Nat) : Int) := by rw [Int.tdiv_eq_ediv_of_nonneg (by omega)]; omega
    have e2 : (k : Int).tmod 8 = ((k % 8 : Nat) : Int) := by rw [Int.tmod_eq_emod_of_nonneg (by omega)]; omega
    have hw1 : IntKind.wrap .i64 ((k : Int).tdiv 8) = ((k / 8 : Nat) : Int) := by rw [e1, wrap64_id (by omega)]
    have hw2 : IntKind.wrap .u64 ((k : Int).tmod 8) = ((k % 8 : Nat) : Int) := by rw [e2]; simp [IntKind.wrap, IntKind.bits, IntKind.signed]; omega
    have e3 : ((7 : Int) - ((k % 8 : Nat) : Int)).toNat = 7 - k % 8 := by omega
    have hb := byte_gt (a := a) (i := k / 8) (by omega)
    obtain ⟨y, hy⟩ := fin_ex (n := 256) (x := gt a.1 (k / 8)) (by omega)
    have hor := or_all y ⟨k % 8, by omega⟩
    rw [← hy] at hor
    have hw3 : IntKind.wrap .u8 (bitI a k * 2 ^ (min ((7 : Int) - ((k % 8 : Nat) : Int)).toNat (IntKind.bits .u8))) = bitI a k * 2 ^ (7 - k % 8) := by rw [e3]; exact hor.1
    have hst : (maskL a.1 k).set (k / 8) (IntKind.wrap .u8 ((BitVec.ofInt (IntKind.bits .u8) ((maskL a.1 k).getD (k / 8) 0) ||| BitVec.ofInt (IntKind.bits .u8) (bitI a k * 2 ^ (7 - k % 8))).toNat)) = maskL a.1 ((k : Int) + 1) := by
      rw [← maskL_step a (by omega), ← hor.2]
      have : (maskL a.1 k).getD (k / 8) 0 = cutB (gt a.1 (k / 8)) ((k % 8 : Nat) : Int) := by
        rw [show (maskL a.1 k).getD (k / 8) 0 = gt (maskL a.1 k) (k / 8) from rfl, gt_maskL (by omega)]
        congr 1
        unfold keepN; omega
      rw [this]
      rfl
    conv => whnf
    repeat' (first | ((apply Wr.eq hw1); (conv => whnf)) | ((apply Wr.eq hw2); (conv => whnf)) | ((apply Wr.eq hw3); (conv => whnf)) | ((first | ((with_reducible apply Nm.mk); focus ((try simp only [lns, be8_len]); exact rfl)) | ((with_reducible first | apply Wr.i64 | apply Wr.u64); focus omega) | ((with_reducible apply Need.mk); focus first | omega | kernel_rfl) | (apply CallN.mk (k_bit _ k (by omega))) | ((with_reducible apply Bif.dec) <;> intro h <;> (try simp only [lns, be8_len] at h) <;> (try (exfalso; omega))) | (with_reducible apply Frz.l)) <;> conv => whnf) | fail)
    all_goals ((refine ⟨⟨k + 1, by omega⟩, ?_⟩; (try dsimp only); conv => whnf); repeat' (first | with_reducible apply True.intro | ((apply Same.mk (by rw [hst]; rfl)); (conv => whnf)) | ((first | ((with_reducible apply Need.mk); focus omega) | (with_reducible apply Same.rfl) | (apply Same.int; focus rfl) | (with_reducible apply Turn.l) | (with_reducible apply Frz.l)) <;> conv => whnf) | fail))
  · obtain rfl : c = (k : Int) := by omega
    have hm : maskL a.1 k = (maskP a b).ip.1 := by show _ = maskL a.1 (min (max b 0) 128); rw [← hc]
    have hm2 : (k : Int) = (maskP a b).bits := hc
    conv => whnf
    repeat' (first | with_reducible apply True.intro | ((apply Same.mk (by rw [hm]; rfl)); (conv => whnf)) | ((apply Same.int hm2); (conv => whnf)) | ((first | ((with_reducible apply Bif.dec) <;> intro h <;> (try simp only [lns, be8_len] at h) <;> (try (exfalso; omega))) | (with_reducible apply Frz.l)) <;> conv => whnf) | fail)
end Go.Fw
