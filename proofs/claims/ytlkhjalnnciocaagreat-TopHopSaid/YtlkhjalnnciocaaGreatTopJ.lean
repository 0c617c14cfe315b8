/- Frames of the shapes that the laws of the top use: long addresses, commands or data. -/
import Derived.Test.YtlkhjalnnciocaaGreatTopT

namespace Go.Fw
open Go.Proofs
set_option maxHeartbeats 8000000
set_option maxRecDepth 8000
structure Frm where
  c : Bool
  sec : Bool
  seq : UInt8
  pan : Nat
  dst : Nat
  src : Nat
  ctr : Nat
  key : UInt8
  pay : List UInt8
  mic : List UInt8
def lnkV (e : Nat) : SV := .agg [.v (.int .i64 3), .v (.int .u16 0), .v (.int .u64 (e : Int))]
def lnk (e : Nat) : Adr := ⟨3, 0, e⟩
def kindF (c : Bool) : Int := if c then 3 else 1
def frmS (f : Frm) (p m : SV) : SV := .agg [int (kindF f.c), bool (!f.c), bool false, bool f.sec, b8 f.seq, .v (.int .u16 (f.pan : Int)), lnkV f.dst, lnkV f.src, .v (.int .u32 (f.ctr : Int)), b8 f.key, p, m]
def bys (l : List UInt8) : SV := .fs .no 1 (lst b8 l)
def frmV (f : Frm) : SV := frmS f (bys f.pay) (bys f.mic)
def lenF (f : Frm) : Nat := 23 + f.pay.length + (if f.sec then 5 + f.mic.length else 0)
def vF (f : Frm) : Bool := decide ((if f.sec then f.mic.length = 4 else f.ctr = 0 ∧ f.key.toNat = 0 ∧ f.mic.length = 0) ∧ lenF f ≤ 127)
theorem vAdr_lnk (e : Nat) : vAdr (lnk e) = true := by simp [vAdr, lnk]
theorem k_lnkValid (e : Nat) : Con Tryz.prog 129 [lnkV e] [] (bool true) [] := by
  have := k_addrValid (lnk e)
  rwa [vAdr_lnk] at this
theorem k_isB (e : Nat) : Con Tryz.prog 130 [lnkV e] [] (bool false) [] := by
  refine spec_of_run ttok mixed (T0 := 7) (ts := [.tmp 2]) 6 rfl rfl rfl rfl (by simp) rfl ?_
  conv => whnf
  repeat' (first | with_reducible apply True.intro | ((first | (apply Same.rfl) | (with_reducible apply Frz.l)) <;> conv => whnf) | fail)
theorem k_addrB (e : Nat) : Con Tryz.prog 207 [lnkV e] [] (int 8) [] := by
  refine spec_of_run ttok mixed (T0 := 183) (ts := [.tmp 2]) 9 rfl rfl rfl rfl (by simp) rfl ?_
  conv => whnf
  repeat' (first | with_reducible apply True.intro | ((first | ((with_reducible apply Bif.beq) <;> intro h <;> (try simp only [lns] at h) <;> (try (exfalso; omega))) | (apply Same.int; focus rfl) | (with_reducible apply Frz.l)) <;> conv => whnf) | fail)
theorem k_flen (f : Frm) (hp : f.pay.length ≤ 100000) (hm : f.mic.length ≤ 100000) : Con Tryz.prog 178 [frmV f] [] (int (lenF f : Int)) [] := by
  obtain ⟨c, sec, seq, pan, dst, src, ctr, key, pay, mic⟩ := f
  dsimp only at hp hm
  have c1 := k_addrB dst
  have c2 := k_addrB src
  cases c <;> cases sec <;> simp only [frmV, frmS, kindF, lenF, Bool.not_true, Bool.not_false, if_true, if_false, Bool.false_eq_true]
  all_goals
    refine spec_of_run ttok mixed (T0 := 8390671) (ts := [.tmp 2]) 31 rfl rfl rfl rfl (by simp) rfl ?_
    conv => whnf
    repeat' (first | with_reducible apply True.intro | ((first | ((with_reducible apply Nm.mk); focus ((try simp only [lns]); exact rfl)) | ((with_reducible apply Wr.i64); focus omega) | ((with_reducible apply Need.mk); focus kernel_rfl) | (apply CallN.mk (c1)) | (apply CallN.mk (c2)) | (with_reducible first | apply Bif.T | apply Bif.F) | ((with_reducible apply Bif.bne) <;> intro h <;> (try simp only [lns] at h) <;> (try (exfalso; omega))) | (apply Same.int; focus omega) | (with_reducible apply Frz.l)) <;> conv => whnf) | fail)
theorem k_vData (f : Frm) (hp : f.pay.length ≤ 100000) (hm : f.mic.length ≤ 100000) : Con Tryz.prog 116 [frmV f] [] (bool (vF f)) [] := by
  have cl := k_flen f hp hm
  obtain ⟨c, sec, seq, pan, dst, src, ctr, key, pay, mic⟩ := f
  dsimp only at hp hm
  have c1 := k_isB dst
  have c2 := k_isB src
  have c3 := k_lnkValid dst
  have c4 := k_lnkValid src
  cases c <;> cases sec <;> simp only [frmV, frmS, kindF, lenF, vF, Bool.not_true, Bool.not_false, if_true, if_false, Bool.false_eq_true] at cl ⊢
  all_goals
    refine spec_of_run ttok mixed (T0 := 9223389697777074183) (ts := [.tmp 2]) 67 rfl rfl rfl rfl (by simp) rfl ?_
    conv => whnf
    repeat' (first | ((first | ((with_reducible apply Nm.mk); focus ((try simp only [lns]); exact rfl)) | (apply CallN.mk (c1)) | (apply CallN.mk (c2)) | (apply CallN.mk (c3)) | (apply CallN.mk (c4)) | (apply CallN.mk (cl)) | (with_reducible first | apply Bif.T | apply Bif.F) | ((with_reducible first | apply Bif.beq | apply Bif.bne) <;> intro h <;> (try simp only [lns] at h) <;> (try (exfalso; omega))) | (with_reducible apply Bif.not) | (with_reducible apply Frz.l)) <;> conv => whnf) | fail)
  all_goals (apply Same.bool (by rw [Bool.eq_iff_iff]; simp only [decide_eq_true_eq, Bool.false_eq_true, false_iff, true_iff, Bool.and_eq_true, Bool.or_eq_true, Bool.not_eq_true', decide_eq_false_iff_not, ne_eq]; omega); (conv => whnf); repeat' (first | with_reducible apply True.intro | ((with_reducible apply Frz.l) <;> conv => whnf) | fail))
end Go.Fw

/- Frames: Valid, Header. -/
namespace Go.Fw
open Go.Proofs
set_option maxHeartbeats 8000000
set_option maxRecDepth 8000
theorem k_frValid (f : Frm) (hp : f.pay.length ≤ 100000) (hm : f.mic.length ≤ 100000) : Con Tryz.prog 51 [frmV f] [] (bool (vF f)) [] := by
  have cl := k_vData f hp hm
  obtain ⟨c, sec, seq, pan, dst, src, ctr, key, pay, mic⟩ := f
  generalize hv : vF _ = vv at cl ⊢
  cases c <;> simp only [frmV, frmS, kindF, Bool.not_true, Bool.not_false, if_true, if_false, Bool.false_eq_true] at cl ⊢
  all_goals
    refine spec_of_run ttok mixed (T0 := 567) (ts := [.tmp 2]) 14 rfl rfl rfl rfl (by simp) rfl ?_
    conv => whnf
    repeat' (first | with_reducible apply True.intro | ((first | (apply CallN.mk (cl)) | ((with_reducible apply Bif.beq) <;> intro h <;> (try simp only [lns] at h) <;> (try (exfalso; omega))) | (with_reducible apply Same.rfl) | (with_reducible apply Frz.l)) <;> conv => whnf) | fail)
theorem k_fflag (b : Bool) (x : Int) : Con Tryz.prog 118 [bool b, .v (.int .u8 x)] [] (.v (.int .u8 (if b = true then x else 0))) [] := by
  cases b
  all_goals
    refine spec_of_run ttok mixed (T0 := 51) (ts := [.tmp 4]) 7 rfl rfl rfl rfl (by simp) rfl ?_
    conv => whnf
    repeat' (first | with_reducible apply True.intro | ((first | (with_reducible first | apply Bif.T | apply Bif.F) | (apply Same.int; focus rfl) | (with_reducible apply Frz.l)) <;> conv => whnf) | fail)
theorem k_apAddr (b : List UInt8) (e : Nat) (t : Tg) (hb : b.length ≤ 1000) : Con Tryz.prog 119 [.fs t 1 (lst b8 b), lnkV e] [] (.ov 1 0 0 (b.length + 8)) [.arr (some (b.length + 8)) 1 (lst b8 (b ++ beN 8 e))] := by
  refine spec_of_run ttok mixed (T0 := 155) (ts := [.tmp 4]) 17 rfl rfl rfl rfl (by simp) rfl ?_
  conv => whnf
  repeat' (first | with_reducible apply True.intro | ((first | (apply CallN.mk (k_Append b e 8 _ (by omega) (by omega))) | ((with_reducible apply Bif.beq) <;> intro h <;> (try simp only [lns] at h) <;> (try (exfalso; omega))) | (with_reducible apply Same.rfl) | (with_reducible apply Frz.l)) <;> conv => whnf) | fail)
/-- The bytes of a sealed frame ahead of MIC and the CRC. -/
def firstF (c : Bool) : UInt8 := if c then 200 else 104
def hdrM (f : Frm) : List UInt8 := [firstF f.c, 240, f.seq] ++ beN 2 f.pan ++ beN 8 f.dst ++ beN 8 f.src ++ beN 4 f.ctr ++ [f.key] ++ f.pay
theorem hdrM_len (f : Frm) : (hdrM f).length = 26 + f.pay.length := by simp [hdrM, beN_len]; omega
theorem vF_sealed {f : Frm} (hs : f.sec = true) (hp : f.pay.length ≤ 95) (hm : f.mic.length = 4) : vF f = true := by
  simp [vF, lenF, hs, hm]; omega
theorem vF_nomic {f : Frm} (hs : f.sec = true) (hm : f.mic = []) : vF f = false := by
  simp [vF, hs, hm]
/-- The numbers are in range. -/
structure OkN (f : Frm) : Prop where
  pan : f.pan ≤ 65535
  dst : f.dst ≤ 18446744073709551615
  src : f.src ≤ 18446744073709551615
  ctr : f.ctr ≤ 4294967295
theorem first0 {x : Int} {q : UInt8} (h : x = 104) : [SV.v (.int .u8 x), SV.v (.int .u8 240), b8 q] = lst b8 [firstF false, 240, q] := by subst h; rfl
theorem first1 {x : Int} {q : UInt8} (h : x = 200) : [SV.v (.int .u8 x), SV.v (.int .u8 240), b8 q] = lst b8 [firstF true, 240, q] := by subst h; rfl
theorem nm_app {α : Type} {f : α → SV} {a b : List α} : Fw.lst f a ++ Fw.lst f b = Fw.lst f (a ++ b) := lst_app a b
/-- Header of a frame that has its MIC, or will have it. -/
theorem k_HeaderO (f : Frm) (hs : f.sec = true) (hp : f.pay.length ≤ 95) (hm : f.mic = [] ∨ f.mic.length = 4) (ok : OkN f) : Con Tryz.prog 54 [frmV f] [] (.ov 1 0 0 (26 + f.pay.length)) [.arr none 1 (lst b8 (hdrM f))] := by
  have hm1 : f.mic.length ≤ 4 := by rcases hm with h | h <;> simp [h]
  have cv := k_frValid f (by omega) (by omega)
  have cv2 := k_frValid { f with mic := List.replicate 4 0 } (by show f.pay.length ≤ _; omega) (by simp)
  rw [vF_sealed (f := { f with mic := List.replicate 4 0 }) hs hp rfl] at cv2
  obtain ⟨c, sec, seq, pan, dst, src, ctr, key, pay, mic⟩ := f
  obtain ⟨o1, o2, o3, o4⟩ := ok
  dsimp only at hs hp hm hm1 cv2 o1 o2 o3 o4
  subst hs
  have ca := k_fflag
  have b1 := fun t => k_Append [firstF c, 240, seq] pan 2 t (by decide) (by simp)
  have b2 := fun t => k_apAddr ([firstF c, 240, seq] ++ beN 2 pan) dst t (by simp [beN_len])
  have b3 := fun t => k_apAddr ([firstF c, 240, seq] ++ beN 2 pan ++ beN 8 dst) src t (by simp [beN_len])
  have b4 := fun t => k_Append ([firstF c, 240, seq] ++ beN 2 pan ++ beN 8 dst ++ beN 8 src) ctr 4 t (by decide) (by simp [beN_len])
  rcases hm with rfl | hm
  · rw [vF_nomic rfl rfl] at cv
    cases c <;> simp only [frmV, frmS, kindF, Bool.not_true, Bool.not_false, if_true, if_false, Bool.false_eq_true] at cv cv2 ⊢
    all_goals
      refine spec_of_run ttok mixed (T0 := 2305913377957875871) (ts := [.tmp 2]) 76 rfl rfl rfl rfl (by simp) rfl ?_
      conv => whnf
      repeat' (first | with_reducible apply True.intro | ((with_reducible apply Wr.u64); (focus omega); (conv => whnf)) | ((apply Wr.mk); (conv => whnf)) | ((apply Nm.mk (first0 (by decide))); (conv => whnf)) | ((apply Nm.mk (first1 (by decide))); (conv => whnf)) | ((apply Nm.mk (nm_all (by simp [beN_len]))); (conv => whnf)) | ((with_reducible apply Nm.mk nm_app); (conv => whnf)) | ((first | (with_reducible first | apply Nm.snoc _ (rfl) | apply Nm.rep _ (rfl)) | ((with_reducible apply Nm.mk); focus ((try simp only [lns, beN_len]); exact rfl)) | ((with_reducible apply Need.mk); focus first | omega | (simp only [lns, beN_len]; omega) | exact CleanP.nil rfl | exact CleanP.lst rfl (fun _ => rfl) | kernel_rfl | (unfold roomOK; simp only [lns, beN_len]; omega) | (refine ⟨?_, ?_, ?_⟩ <;> first | omega | (unfold roomOK; omega) | fail)) | (apply CallN.mk (cv)) | (apply CallN.mk (cv2)) | (apply CallN.mk (ca _ _)) | (apply CallN.mk (b1 _)) | (apply CallN.mk (b2 _)) | (apply CallN.mk (b3 _)) | (apply CallN.mk (b4 _)) | (with_reducible first | apply Bif.T | apply Bif.F) | ((with_reducible apply Bif.bne) <;> intro h <;> (try simp only [lns, beN_len] at h) <;> (try (exfalso; omega))) | (with_reducible apply Bif.not) | (with_reducible apply Same.rfl) | (apply Same.rfl) | (with_reducible first | apply Alt.l | apply Cut.l | apply GiveN.lend) | (with_reducible apply Frz.l)) <;> conv => whnf) | fail)
  · rw [vF_sealed rfl hp hm] at cv
    cases c <;> simp only [frmV, frmS, kindF, Bool.not_true, Bool.not_false, if_true, if_false, Bool.false_eq_true] at cv cv2 ⊢
    all_goals
      refine spec_of_run ttok mixed (T0 := 2305913377957875871) (ts := [.tmp 2]) 76 rfl rfl rfl rfl (by simp) rfl ?_
      conv => whnf
      repeat' (first | with_reducible apply True.intro | ((with_reducible apply Wr.u64); (focus omega); (conv => whnf)) | ((apply Wr.mk); (conv => whnf)) | ((apply Nm.mk (first0 (by decide))); (conv => whnf)) | ((apply Nm.mk (first1 (by decide))); (conv => whnf)) | ((apply Nm.mk (nm_all (by simp [beN_len]))); (conv => whnf)) | ((with_reducible apply Nm.mk nm_app); (conv => whnf)) | ((first | (with_reducible apply Nm.snoc _ (rfl)) | ((with_reducible apply Nm.mk); focus ((try simp only [lns, beN_len]); exact rfl)) | ((with_reducible apply Need.mk); focus first | omega | (simp only [lns, beN_len]; omega) | exact CleanP.lst rfl (fun _ => rfl) | kernel_rfl | (unfold roomOK; simp only [lns, beN_len]; omega)) | (apply CallN.mk (cv)) | (apply CallN.mk (ca _ _)) | (apply CallN.mk (b1 _)) | (apply CallN.mk (b2 _)) | (apply CallN.mk (b3 _)) | (apply CallN.mk (b4 _)) | (with_reducible apply Bif.T) | ((with_reducible apply Bif.bne) <;> intro h <;> (try simp only [lns, beN_len] at h) <;> (try (exfalso; omega))) | (with_reducible apply Bif.not) | (with_reducible apply Same.rfl) | (apply Same.rfl) | (with_reducible first | apply Alt.l | apply Cut.l | apply GiveN.lend) | (with_reducible apply Frz.l)) <;> conv => whnf) | fail)
theorem k_Header (f : Frm) (hs : f.sec = true) (hp : f.pay.length ≤ 95) (hm : f.mic = [] ∨ f.mic.length = 4) (ok : OkN f) : Con Tryz.prog 54 [frmV f] [] (bys (hdrM f)) [] :=
  (k_HeaderO f hs hp hm ok).cl (.one (.all rfl (hdrM_len f).symm) (fun l h => by cases h)) rfl
end Go.Fw

/- Frames: Encode, parse, Decode. -/
namespace Go.Fw
open Go.Proofs
set_option maxHeartbeats 8000000
set_option maxRecDepth 8000
/-- The encoding of a sealed frame. -/
def encM (f : Frm) : List UInt8 := crcA (hdrM f ++ f.mic)
theorem encM_len {f : Frm} (hm : f.mic.length = 4) : (encM f).length = 32 + f.pay.length := by
  rw [encM, crcA_len, List.length_append, hdrM_len, hm]; omega
theorem k_frEncode (f : Frm) (hs : f.sec = true) (hp : f.pay.length ≤ 95) (hm : f.mic.length = 4) (ok : OkN f) : Con Tryz.prog 45 [frmV f] [] (.tup [bys (encM f), int 0]) [] := by
  have cv := k_frValid f (by omega) (by omega)
  rw [vF_sealed hs hp hm] at cv
  have ch := k_HeaderO f hs hp (.inr hm) ok
  have hl := hdrM_len f
  have cc := fun t => k_crcAppend (hdrM f ++ f.mic) t (by simp [hl]; omega)
  refine Con.cl (r := .tup [.ov 1 0 0 ((hdrM f ++ f.mic).length + 2), int 0]) (hp' := [.arr (some ((hdrM f ++ f.mic).length + 2)) 1 (lst b8 (encM f))]) ?_ (.tup (.cons (.all rfl (crcA_len _).symm) (.cons (.wk rfl .rfl) .nil))) rfl
  refine spec_of_run ttok mixed (T0 := 79) (ts := [.tmp 2, .tmp 3]) 13 rfl rfl rfl rfl (by simp) rfl ?_
  conv => whnf
  repeat' (first | with_reducible apply True.intro | ((with_reducible apply Nm.mk (lst_app _ _)); (conv => whnf)) | ((apply Nm.mk (nm_all (by simp [hl, hm]))); (conv => whnf)) | ((first | ((with_reducible apply Nm.mk); focus ((try simp only [lns, hl]); exact rfl)) | ((with_reducible apply Need.mk); focus first | (simp only [lns, hl]; omega) | exact CleanP.lst rfl (fun _ => rfl) | kernel_rfl | (unfold roomOK; simp only [lns, hl]; omega)) | (apply CallN.mk (cv)) | (apply CallN.mk (ch)) | (apply CallN.mk (cc _)) | (with_reducible apply Bif.T) | (with_reducible apply Bif.not) | (with_reducible apply Same.rfl) | (apply Same.int; focus rfl) | (apply Same.rfl) | (with_reducible first | apply Alt.l | apply GiveN.lend) | (with_reducible apply Frz.l)) <;> conv => whnf) | fail)
theorem beV_beN : ∀ (n v : Nat), v < 256 ^ n → beV (beN n v) = v
  | 0, v, h => by
    have : v = 0 := by simpa using h
    subst this; rfl
  | n + 1, v, h => by
    have e : beN (n + 1) v = beN n (v / 256) ++ [UInt8.ofNat v] := by
      apply ext_gt
      · simp [beN_len]
      · intro i hi
        rw [beN_len] at hi
        rw [gt_beN hi, gt_app, beN_len]
        split
        · rename_i h2
          rw [gt_beN h2, Nat.div_div_eq_div_mul, show n + 1 - 1 - i = (n - 1 - i) + 1 by omega, Nat.pow_succ, Nat.mul_comm]
        · have : i = n := by omega
          subst this
          rw [Nat.sub_self, show i + 1 - 1 - i = 0 by omega]
          simp [gt]
    rw [e, beV_snoc, beV_beN n (v / 256) (by rw [Nat.pow_succ] at h; omega), UInt8.toNat_ofNat']
    omega
theorem uint_pre (x r : List UInt8) (h : 1 ≤ x.length ∧ x.length ≤ 8) : uintM (x ++ r) 0 (x.length : Int) = (beV x, true) := by
  rw [uintM, if_pos (by simp; omega)]
  simp
def rdrV (b : List UInt8) : SV := .agg [bys b, bool false]
theorem k_next (x r : List UInt8) (h : 1 ≤ x.length ∧ x.length ≤ 8) (hr : r.length ≤ 1000) :
    Con Tryz.prog 176 [.pb 0 [], int (x.length : Int)] [.cells (rdrV (x ++ r))] (q64 (beV x : Int)) [.cells (rdrV r)] := by
  have c := fun t => k_Uint (x ++ r) 0 x.length t (by simp; omega) (by omega) (by omega)
  rw [uint_pre x r h] at c
  have e : (x ++ r).drop x.length = r := by simp
  refine spec_of_run ttok mixed (T0 := 131187) (ts := [.tmp 4]) 31 rfl rfl rfl rfl (by simp) rfl ?_
  conv => whnf
  repeat' (first | with_reducible apply True.intro | ((apply Nm.mk nm_appL); (conv => whnf)) | ((apply Same.mk (by rfl)); (conv => whnf)) | ((first | ((with_reducible apply Nm.mk); focus ((try simp only [lns]); exact rfl)) | ((with_reducible apply Need.mk); focus (simp only [lns]; omega)) | (apply CallN.mk (c _)) | (with_reducible apply Bif.T) | (with_reducible apply Bif.not) | (with_reducible apply Frz.l)) <;> conv => whnf) | fail)
theorem k_raddr (e : Nat) (r : List UInt8) (he : e ≤ 18446744073709551615) (hr : r.length ≤ 1000) :
    Con Tryz.prog 177 [.pb 0 [], int 3] [.cells (rdrV (beN 8 e ++ r))] (lnkV e) [.cells (rdrV r)] := by
  have c := k_next (beN 8 e) r (by simp [beN_len]) hr
  rw [beV_beN 8 e (by omega), beN_len] at c
  refine spec_of_run ttok mixed (T0 := 33587) (ts := [.cell 4 52]) 21 rfl rfl rfl rfl (by simp) rfl ?_
  conv => whnf
  repeat' (first | with_reducible apply True.intro | ((apply Same.mk rfl); (conv => whnf)) | ((first | (apply CallN.mk (c)) | ((with_reducible apply Bif.beq) <;> intro h <;> (try simp only [lns] at h) <;> (try (exfalso; omega))) | (with_reducible apply Frz.l)) <;> conv => whnf) | fail)
theorem beV1 (c : UInt8) : beV [c] = c.toNat := by simp [beV]
theorem hdr_split (f : Frm) : hdrM f ++ f.mic = [firstF f.c] ++ ([240] ++ ([f.seq] ++ (beN 2 f.pan ++ (beN 8 f.dst ++ (beN 8 f.src ++ (beN 4 f.ctr ++ ([f.key] ++ (f.pay ++ f.mic)))))))) := by
  simp [hdrM]
theorem k_parse (f : Frm) (hs : f.sec = true) (hp : f.pay.length ≤ 95) (hm : f.mic.length = 4) (ok : OkN f) : Con Tryz.prog 109 [bys (hdrM f ++ f.mic)] [] (.tup [frmV f, bool true]) [] := by
  refine Con.cl (r := .tup [frmS f (.ov 1 0 0 f.pay.length) (.ov 1 1 0 4), bool true]) (hp' := [.arr none 1 (lst b8 f.pay), .arr none 1 (lst b8 f.mic)]) ?_
    (.tup (.cons (.aggC (.wk rfl .rfl) (.aggC (.wk rfl .rfl) (.aggC (.wk rfl .rfl) (.aggC (.wk rfl .rfl) (.aggC (.wk rfl .rfl) (.aggC (.wk rfl .rfl) (.aggC (.wk rfl .rfl) (.aggC (.wk rfl .rfl) (.aggC (.wk rfl .rfl) (.aggC (.wk rfl .rfl) (.aggC (.all rfl rfl) (.aggC (.all rfl hm.symm) .aggN)))))))))))) (.cons (.wk rfl .rfl) .nil))) rfl
  rw [hdr_split]
  obtain ⟨c, sec, seq, pan, dst, src, ctr, key, pay, mic⟩ := f
  obtain ⟨o1, o2, o3, o4⟩ := ok
  dsimp only at hs hp hm o1 o2 o3 o4 ⊢
  subst hs
  have lp : (pay ++ mic).length = pay.length + 4 := by simp [hm]
  have epay : (pay ++ mic).take pay.length = pay := by simp
  have emic : (pay ++ mic).drop pay.length = mic := by simp
  generalize hpm : pay ++ mic = pm at lp epay emic
  have n1 := k_next [firstF c] ([240] ++ ([seq] ++ (beN 2 pan ++ (beN 8 dst ++ (beN 8 src ++ (beN 4 ctr ++ ([key] ++ pm))))))) (by simp) (by simp [beN_len]; omega)
  have n2 := k_next [240] ([seq] ++ (beN 2 pan ++ (beN 8 dst ++ (beN 8 src ++ (beN 4 ctr ++ ([key] ++ pm)))))) (by simp) (by simp [beN_len]; omega)
  have n3 := k_next [seq] (beN 2 pan ++ (beN 8 dst ++ (beN 8 src ++ (beN 4 ctr ++ ([key] ++ pm))))) (by simp) (by simp [beN_len]; omega)
  have n4 := k_next (beN 2 pan) (beN 8 dst ++ (beN 8 src ++ (beN 4 ctr ++ ([key] ++ pm)))) (by simp [beN_len]) (by simp [beN_len]; omega)
  have n5 := k_raddr dst (beN 8 src ++ (beN 4 ctr ++ ([key] ++ pm))) o2 (by simp [beN_len]; omega)
  have n6 := k_raddr src (beN 4 ctr ++ ([key] ++ pm)) o3 (by simp [beN_len]; omega)
  have n7 := k_next (beN 4 ctr) ([key] ++ pm) (by simp [beN_len]) (by simp; omega)
  have n8 := k_next [key] pm (by simp) (by omega)
  have q1 := seq.toNat_lt
  have q2 := key.toNat_lt
  rw [beV1] at n3 n8
  rw [beV_beN 2 pan (by omega), beN_len] at n4
  rw [beV_beN 4 ctr (by omega), beN_len] at n7
  cases c <;> simp only [frmV, frmS, kindF, Bool.not_true, Bool.not_false, if_true, if_false, Bool.false_eq_true]
  · refine spec_of_run ttok mixed (T0 := 160708610831751730694141) (ts := [.cell 2 54, .tmp 3]) 92 rfl rfl rfl rfl (by simp) rfl ?_
    conv => whnf
    repeat' (first | ((apply Wr.eq (y := 104) (by decide)); (conv => whnf)) | ((apply Wr.eq (y := 240) (by decide)); (conv => whnf)) | ((apply Wr.eq (y := 1) (by decide)); (conv => whnf)) | ((first | ((with_reducible first | apply Wr.u8 | apply Wr.u16); focus omega) | ((with_reducible apply Need.mk); focus omega) | (apply CallN.mk (n1)) | (apply CallN.mk (n2)) | (apply CallN.mk (n3)) | (apply CallN.mk (n4)) | ((with_reducible apply Bif.bne) <;> intro h <;> (try simp only [lns] at h) <;> (try (exfalso; omega))) | (with_reducible apply Frz.l)) <;> conv => whnf) | fail)
    refine LoopN.unr 3 ttok mixed (T0 := 160708610831751730694141) ?_
    conv => whnf
    repeat' (first | with_reducible apply True.intro | ((apply Wr.eq (y := 1) (by decide)); (conv => whnf)) | ((apply Wr.eq (y := 3) (by decide)); (conv => whnf)) | ((apply Elem.mk _ rfl); (conv => whnf)) | ((apply Need.mk (by decide)); (conv => whnf)) | ((apply Nm.mk (nm_pre (m := pay.length) (by omega))); (conv => whnf)) | ((apply Nm.mk (nm_tail (n := pay.length) (by omega))); (conv => whnf)) | ((apply Same.mk (by rw [epay])); (conv => whnf)) | ((apply Same.mk (by rw [emic])); (conv => whnf)) | ((apply Same.mk rfl); (conv => whnf)) | ((first | ((with_reducible apply Nm.mk); focus ((try simp only [lns, lp]); exact rfl)) | ((with_reducible first | apply Wr.i64 | apply Wr.u8 | apply Wr.u32); focus omega) | ((with_reducible apply Need.mk); focus first | (simp only [lns, lp]; omega) | kernel_rfl | (unfold roomOK; simp only [lns, lp]; omega)) | (apply CallN.mk (n5)) | (apply CallN.mk (n6)) | (apply CallN.mk (n7)) | (apply CallN.mk (n8)) | (with_reducible apply Bif.F) | ((with_reducible first | apply Bif.dec | apply Bif.bne) <;> intro h <;> (try simp only [lns, lp] at h) <;> (try first | (exfalso; omega) | (exact absurd h (by decide)))) | ((with_reducible apply Same.mk); focus omega) | (with_reducible apply Cut.l) | (with_reducible apply Frz.l)) <;> conv => whnf) | fail)
  · refine spec_of_run ttok mixed (T0 := 160708610831751730694141) (ts := [.cell 2 54, .tmp 3]) 92 rfl rfl rfl rfl (by simp) rfl ?_
    conv => whnf
    repeat' (first | ((apply Wr.eq (y := 200) (by decide)); (conv => whnf)) | ((apply Wr.eq (y := 240) (by decide)); (conv => whnf)) | ((apply Wr.eq (y := 3) (by decide)); (conv => whnf)) | ((first | ((with_reducible first | apply Wr.u8 | apply Wr.u16); focus omega) | ((with_reducible apply Need.mk); focus omega) | (apply CallN.mk (n1)) | (apply CallN.mk (n2)) | (apply CallN.mk (n3)) | (apply CallN.mk (n4)) | ((with_reducible apply Bif.bne) <;> intro h <;> (try simp only [lns] at h) <;> (try (exfalso; omega))) | (with_reducible apply Frz.l)) <;> conv => whnf) | fail)
    refine LoopN.unr 3 ttok mixed (T0 := 160708610831751730694141) ?_
    conv => whnf
    repeat' (first | with_reducible apply True.intro | ((apply Wr.eq (y := 1) (by decide)); (conv => whnf)) | ((apply Wr.eq (y := 3) (by decide)); (conv => whnf)) | ((apply Elem.mk _ rfl); (conv => whnf)) | ((apply Need.mk (by decide)); (conv => whnf)) | ((apply Nm.mk (nm_pre (m := pay.length) (by omega))); (conv => whnf)) | ((apply Nm.mk (nm_tail (n := pay.length) (by omega))); (conv => whnf)) | ((apply Same.mk (by rw [epay])); (conv => whnf)) | ((apply Same.mk (by rw [emic])); (conv => whnf)) | ((apply Same.mk rfl); (conv => whnf)) | ((first | ((with_reducible apply Nm.mk); focus ((try simp only [lns, lp]); exact rfl)) | ((with_reducible first | apply Wr.i64 | apply Wr.u8 | apply Wr.u32); focus omega) | ((with_reducible apply Need.mk); focus first | (simp only [lns, lp]; omega) | kernel_rfl | (unfold roomOK; simp only [lns, lp]; omega)) | (apply CallN.mk (n5)) | (apply CallN.mk (n6)) | (apply CallN.mk (n7)) | (apply CallN.mk (n8)) | (with_reducible apply Bif.F) | ((with_reducible first | apply Bif.dec | apply Bif.bne) <;> intro h <;> (try simp only [lns, lp] at h) <;> (try first | (exfalso; omega) | (exact absurd h (by decide)))) | ((with_reducible apply Same.mk); focus omega) | (with_reducible apply Cut.l) | (with_reducible apply Frz.l)) <;> conv => whnf) | fail)
end Go.Fw

/- Frames: Decode. -/
namespace Go.Fw
open Go.Proofs
set_option maxHeartbeats 8000000
set_option maxRecDepth 8000
def nilV : SV := .v (.slice none 0 0)
theorem k_frDecode (f : Frm) (hs : f.sec = true) (hp : f.pay.length ≤ 95) (hm : f.mic.length = 4) (ok : OkN f) : Con Tryz.prog 46 [bys (encM f)] [] (.tup [frmV f, int 0]) [] := by
  have hl := encM_len hm
  have c := fun t => k_Check (encM f) t (by omega)
  have hc : crcOK (encM f) = true := crcOK_A _
  rw [hc] at c
  have cp := k_parse f hs hp hm ok
  have ce := k_frEncode f hs hp hm ok
  have cb := fun t1 t2 => k_bytesEqual (encM f) (encM f) t1 t2
  rw [decide_eq_true rfl] at cb
  have et : (encM f).take ((encM f).length - 2) = hdrM f ++ f.mic := by
    rw [encM, crcA_len, Nat.add_sub_cancel]; unfold crcA; rw [List.take_left' rfl]
  have hE : f.pay.length ≤ 95 := hp
  generalize encM f = E at *
  generalize hdrM f ++ f.mic = H at *
  have en : List.take ((E.length : Int) - 2).toNat (List.drop 0 (lst b8 E)) = lst b8 H := by
    rw [List.drop_zero, lst_take, ← et]; congr 2; omega
  refine spec_of_run ttok mixed (T0 := 140746078560765) (ts := [.cell 2 54, .tmp 3]) 50 rfl rfl rfl rfl (by simp) rfl ?_
  conv => whnf
  repeat' (first | with_reducible apply True.intro | ((apply Nm.mk en); (conv => whnf)) | ((apply Same.mk rfl); (conv => whnf)) | ((first | ((with_reducible apply Nm.mk); focus ((try simp only [lns]); exact rfl)) | ((with_reducible apply Wr.i64); focus omega) | ((with_reducible apply Need.mk); focus (simp only [lns]; omega)) | (apply CallN.mk (c _)) | (apply CallN.mk (cp)) | (apply CallN.mk (ce)) | (apply CallN.mk (cb _ _)) | (with_reducible first | apply Bif.T | apply Bif.F) | ((with_reducible first | apply Bif.dec | apply Bif.bne) <;> intro h <;> (try simp only [lns] at h) <;> (try (exfalso; omega))) | (with_reducible apply Bif.not) | (with_reducible apply Frz.l)) <;> conv => whnf) | fail)
end Go.Fw

/- Guards with one key and at most one peer: Valid, keyOf, own, accept. -/
namespace Go.Fw
open Go.Proofs
set_option maxHeartbeats 8000000
set_option maxRecDepth 8000
def K1 : List UInt8 := (List.range 16).map fun n => UInt8.ofNat (17 + n)
theorem K1_len : K1.length = 16 := by simp [K1]
def D0 : Nat := 144115188075855873
def D1 : Nat := 144115188075855874
structure Pr where
  last : Nat
  win : Nat
instance : Inhabited Pr := ⟨⟨0, 0⟩⟩
structure Grd where
  ctr : Nat
  res : Nat
  nonce : Nat
  ps : List Pr
def d0V : SV := .agg [.v (.int .i64 3), .v (.int .u16 0), .v (.int .u64 144115188075855873)]
def lk1V : SV := .agg [.v (.int .u8 1), keyV K1]
def keysV : SV := .fs .no 17 [lk1V]
def prV (p : Pr) : SV := .agg [d0V, .v (.int .u8 1), .v (.int .u32 (p.last : Int)), .v (.int .u32 (p.win : Int))]
def grdS (g : Grd) (k p : SV) : SV := .agg [k, .v (.int .u32 (g.ctr : Int)), .v (.int .u32 (g.res : Int)), .v (.int .u32 (g.nonce : Int)), p]
def grdV (g : Grd) : SV := grdS g keysV (.fs .no 6 (lst prV g.ps))
structure VG (g : Grd) : Prop where
  le : g.ctr ≤ g.res
  res : g.res ≤ 4294967295
  non : g.nonce ≤ 4294967295
  one : g.ps.length ≤ 1
  odd : ∀ p ∈ g.ps, p.win % 2 = 1 ∧ p.win ≤ 4294967295 ∧ p.last ≤ 4294967295
theorem VG.cases {g : Grd} (h : VG g) : g.ps = [] ∨ ∃ p, g.ps = [p] ∧ p.win % 2 = 1 ∧ p.win ≤ 4294967295 ∧ p.last ≤ 4294967295 := by
  obtain ⟨_, _, _, h1, h2⟩ := h
  match hp : g.ps, h1, h2 with
  | [], _, _ => exact .inl rfl
  | [p], _, h2 => exact .inr ⟨p, rfl, h2 p (by simp)⟩
theorem k_ascK : Con Tryz.prog 111 [keysV, .clo 112 []] [] (bool true) [] := by
  refine spec_of_run ttok mixed (T0 := 8389171) (ts := [.tmp 4]) 24 rfl rfl rfl rfl (by simp) rfl ?_
  conv => whnf
  repeat' (first | ((with_reducible apply Frz.l) <;> conv => whnf) | fail)
  refine LoopN.unr 2 ttok mixed (T0 := 8389171) ?_
  conv => whnf
  repeat' (first | with_reducible apply True.intro | ((first | ((with_reducible apply Nm.mk); focus ((try simp only [lns]); exact rfl)) | ((with_reducible apply Bif.dec) <;> intro h <;> (try simp only [lns] at h) <;> (try (exfalso; omega))) | (apply Same.bool; focus (with_reducible rfl)) | (with_reducible apply Frz.l)) <;> conv => whnf) | fail)
theorem k_ascP (l : List Pr) (h : l.length ≤ 1) : Con Tryz.prog 113 [.fs .no 6 (lst prV l), .clo 58 []] [] (bool true) [] := by
  refine spec_of_run ttok mixed (T0 := 8389171) (ts := [.tmp 4]) 24 rfl rfl rfl rfl (by simp) rfl ?_
  conv => whnf
  repeat' (first | ((with_reducible apply Frz.l) <;> conv => whnf) | fail)
  refine LoopN.unr 2 ttok mixed (T0 := 8389171) ?_
  conv => whnf
  repeat' (first | with_reducible apply True.intro | ((first | ((with_reducible apply Nm.mk); focus ((try simp only [lns]); exact rfl)) | ((with_reducible apply Bif.dec) <;> intro h <;> (try simp only [lns] at h) <;> (try (exfalso; omega))) | (apply Same.bool; focus (with_reducible rfl)) | (with_reducible apply Frz.l)) <;> conv => whnf) | fail)
theorem k_keyOf (g : Grd) : Con Tryz.prog 52 [grdV g, .v (.int .u8 1)] [] (.tup [keyV K1, bool true]) [] := by
  refine spec_of_run ttok mixed (T0 := 270007) (ts := [.cell 4 126, .tmp 5]) 23 rfl rfl rfl rfl (by simp) rfl ?_
  conv => whnf
  repeat' (first | ((first | ((with_reducible apply Nm.mk); focus ((try simp only [lns]); exact rfl)) | (with_reducible apply Frz.l)) <;> conv => whnf) | fail)
  refine LoopN.unr 2 ttok mixed (T0 := 270007) ?_
  conv => whnf
  repeat' (first | with_reducible apply True.intro | ((apply Elem.mk _ rfl); (conv => whnf)) | ((apply Need.mk (by decide)); (conv => whnf)) | ((apply Same.mk rfl); (conv => whnf)) | ((first | ((with_reducible apply Nm.mk); focus ((try simp only [lns]); exact rfl)) | ((with_reducible first | apply Bif.dec | apply Bif.beq) <;> intro h <;> (try simp only [lns] at h) <;> (try (exfalso; omega))) | (with_reducible apply Frz.l)) <;> conv => whnf) | fail)
theorem and32 {a : Nat} (ha : a ≤ 4294967295) : IntKind.wrap .u32 ((BitVec.ofInt (IntKind.bits .u32) (a : Int) &&& BitVec.ofInt (IntKind.bits .u32) 1).toNat) = ((a % 2 : Nat) : Int) := by
  have w : ∀ y : Nat, y ≤ 4294967295 → IntKind.wrap .u32 (y : Int) = (y : Int) := fun y hy => by simp [IntKind.wrap, IntKind.bits, IntKind.signed]; omega
  rw [BitVec.toNat_and, show IntKind.bits .u32 = 32 from rfl, BitVec.ofInt_natCast, show BitVec.ofInt 32 1 = BitVec.ofNat 32 1 from rfl, BitVec.toNat_ofNat, BitVec.toNat_ofNat, Nat.mod_eq_of_lt (by omega), Nat.mod_eq_of_lt (by omega), Nat.and_one_is_mod, w _ (by omega)]
theorem k_d0Valid : Con Tryz.prog 129 [d0V] [] (bool true) [] := k_lnkValid D0
theorem k_d0isB : Con Tryz.prog 130 [d0V] [] (bool false) [] := k_isB D0
theorem k_validPeer (g : Grd) (p : Pr) (hw : p.win % 2 = 1 ∧ p.win ≤ 4294967295) : Con Tryz.prog 114 [grdV g, prV p] [] (bool true) [] := by
  have e := and32 hw.2
  refine spec_of_run ttok mixed (T0 := 2097247) (ts := [.tmp 4]) 36 rfl rfl rfl rfl (by simp) rfl ?_
  conv => whnf
  repeat' (first | with_reducible apply True.intro | ((apply Same.bool (by rw [e, hw.1]; rfl)); (conv => whnf)) | ((first | (apply CallN.mk (k_d0Valid)) | (apply CallN.mk (k_d0isB)) | (apply CallN.mk (k_keyOf g)) | (with_reducible first | apply Bif.T | apply Bif.F) | ((with_reducible apply Bif.beq) <;> intro h <;> (try simp only [lns] at h) <;> (try (exfalso; omega))) | (with_reducible apply Bif.not) | (with_reducible apply Frz.l)) <;> conv => whnf) | fail)
theorem k_gValid (g : Grd) (h : VG g) : Con Tryz.prog 48 [grdV g] [] (bool true) [] := by
  have ca := k_ascP g.ps h.one
  have hle := h.le
  have cp := fun p hp => k_validPeer g p hp
  have hc := h.cases
  have h1 := h.one
  refine spec_of_run ttok mixed (T0 := 4529045110807) (ts := [.tmp 2]) 44 rfl rfl rfl rfl (by simp) rfl ?_
  conv => whnf
  repeat' (first | ((first | ((with_reducible apply Nm.mk); focus ((try simp only [lns]); exact rfl)) | (apply CallN.mk (k_ascK)) | (apply CallN.mk (ca)) | (with_reducible first | apply Bif.T | apply Bif.F) | ((with_reducible apply Bif.dec) <;> intro h <;> (try simp only [lns] at h) <;> (try (exfalso; omega))) | (with_reducible apply Bif.not) | (with_reducible apply Frz.l)) <;> conv => whnf) | fail)
  refine LoopN.unr 3 ttok mixed (T0 := 4529045110807) ?_
  rcases hc with hp | ⟨p, hp, q1, q2, _⟩
  · rw [hp]
    conv => whnf
    repeat' (first | with_reducible apply True.intro | ((first | ((with_reducible apply Bif.dec) <;> intro h <;> (try simp only [lns] at h) <;> (try (exfalso; omega))) | (apply Same.bool; focus (with_reducible rfl)) | (with_reducible apply Frz.l)) <;> conv => whnf) | fail)
  · obtain ⟨gc, gr, gn, gp⟩ := g
    dsimp only at hp
    subst hp
    conv => whnf
    repeat' (first | with_reducible apply True.intro | ((apply Elem.mk _ rfl); (conv => whnf)) | ((apply Same.mk rfl); (conv => whnf)) | ((first | ((with_reducible apply Nm.mk); focus ((try simp only [lns]); exact rfl)) | ((with_reducible apply Wr.i64); focus omega) | ((with_reducible apply Need.mk); focus (simp only [lns]; omega)) | (apply CallN.mk (cp _ ⟨q1, q2⟩)) | (with_reducible apply Bif.T) | ((with_reducible apply Bif.dec) <;> intro h <;> (try simp only [lns] at h) <;> (try (exfalso; omega))) | (with_reducible apply Bif.not) | (with_reducible apply Frz.l)) <;> conv => whnf) | fail)
end Go.Fw
