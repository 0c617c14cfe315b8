/- Frames: Encode, parse, Decode. -/
import Derived.Test.YtlkhjalnnciocaaGreatTopG
namespace Go.Fw
open Go.Proofs
set_option maxHeartbeats 8000000
set_option maxRecDepth 8000
/-- The encoding of a sealed frame. -/
def encM (f : Frm) : List UInt8 := crcA (hdrM f ++ f.mic)
theorem encM_len {f : Frm} (hm : f.mic.length = 4) : (encM f).length = 32 + f.pay.length := by
  rw [encM, crcA_len, List.length_append, hdrM_len, hm]; omega
theorem k_frEncode (f : Frm) (hs : f.sec = true) (hp : f.pay.length ≤ 95) (hm : f.mic.length = 4) (ok : OkN f) : Con Tryz.prog 45 [frmV f] [] (.tup [bys (encM f), int 0]) [] := by
  have cv := k_frValid f (by omega) (by omega)
  rw [vF_sealed hs hp hm] at cv
  have ch := k_HeaderO f hs hp (.inr hm) ok
  have hl := hdrM_len f
  have cc := fun t => k_crcAppend (hdrM f ++ f.mic) t (by simp [hl]; omega)
  refine Con.cl (r := .tup [.ov 1 0 0 ((hdrM f ++ f.mic).length + 2), int 0]) (hp' := [.arr (some ((hdrM f ++ f.mic).length + 2)) 1 (lst b8 (encM f))]) ?_ (.tup (.cons (.all rfl (crcA_len _).symm) (.cons (.wk rfl .rfl) .nil))) rfl
  refine spec_of_run ttok mixed (T0 := 79) (ts := [.tmp 2, .tmp 3]) 13 rfl rfl rfl rfl (by simp) rfl ?_
  conv => whnf
  repeat' (first | with_reducible apply True.intro | ((with_reducible apply Nm.mk (lst_app _ _)); (conv => whnf)) | ((apply Nm.mk (nm_all (by simp [hl, hm]))); (conv => whnf)) | ((first | ((with_reducible apply Nm.mk); focus ((try simp only [lns, hl]); exact rfl)) | ((with_reducible apply Need.mk); focus first | (simp only [lns, hl]; omega) | exact CleanP.lst rfl (fun _ => rfl) | kernel_rfl | (unfold roomOK; simp only [lns, hl]; omega)) | (apply CallN.mk (cv)) | (apply CallN.mk (ch)) | (apply CallN.mk (cc _)) | (with_reducible apply Bif.T) | (with_reducible apply Bif.not) | (with_reducible apply Same.rfl) | (apply Same.int; focus rfl) | (apply Same.rfl) | (with_reducible first | apply Alt.l | apply GiveN.lend) | (with_reducible apply Frz.l)) <;> conv => whnf) | fail)
theorem beV_beN : ∀ (n v : Nat), v < 256 ^ n → beV (beN n v) = v
  | 0, v, h => by
    have : v = 0 := by simpa using h
    subst this; rfl
  | n + 1, v, h => by
    have e : beN (n + 1) v = beN n (v / 256) ++ [UInt8.ofNat v] := by
      apply ext_gt
      · simp [beN_len]
      · intro i hi
        rw [beN_len] at hi
        rw [gt_beN hi, gt_app, beN_len]
        split
        · rename_i h2
          rw [gt_beN h2, Nat.div_div_eq_div_mul, show n + 1 - 1 - i = (n - 1 - i) + 1 by omega, Nat.pow_succ, Nat.mul_comm]
        · have : i = n := by omega
          subst this
          rw [Nat.sub_self, show i + 1 - 1 - i = 0 by omega]
          simp [gt]
    rw [e, beV_snoc, beV_beN n (v / 256) (by rw [Nat.pow_succ] at h; omega), UInt8.toNat_ofNat']
    omega
theorem uint_pre (x r : List UInt8) (h : 1 ≤ x.length ∧ x.length ≤ 8) : uintM (x ++ r) 0 (x.length : Int) = (beV x, true) := by
  rw [uintM, if_pos (by simp; omega)]
  simp
def rdrV (b : List UInt8) : SV := .agg [bys b, bool false]
theorem k_next (x r : List UInt8) (h : 1 ≤ x.length ∧ x.length ≤ 8) (hr : r.length ≤ 1000) :
    Con Tryz.prog 176 [.pb 0 [], int (x.length : Int)] [.cells (rdrV (x ++ r))] (q64 (beV x : Int)) [.cells (rdrV r)] := by
  have c := fun t => k_Uint (x ++ r) 0 x.length t (by simp; omega) (by omega) (by omega)
  rw [uint_pre x r h] at c
  have e : (x ++ r).drop x.length = r := by simp
  refine spec_of_run ttok mixed (T0 := 131187) (ts := [.tmp 4]) 31 rfl rfl rfl rfl (by simp) rfl ?_
  conv => whnf
  repeat' (first | with_reducible apply True.intro | ((apply Nm.mk nm_appL); (conv => whnf)) | ((apply Same.mk (by rfl)); (conv => whnf)) | ((first | ((with_reducible apply Nm.mk); focus ((try simp only [lns]); exact rfl)) | ((with_reducible apply Need.mk); focus (simp only [lns]; omega)) | (apply CallN.mk (c _)) | (with_reducible apply Bif.T) | (with_reducible apply Bif.not) | (with_reducible apply Frz.l)) <;> conv => whnf) | fail)
theorem k_raddr (e : Nat) (r : List UInt8) (he : e ≤ 18446744073709551615) (hr : r.length ≤ 1000) :
    Con Tryz.prog 177 [.pb 0 [], int 3] [.cells (rdrV (beN 8 e ++ r))] (lnkV e) [.cells (rdrV r)] := by
  have c := k_next (beN 8 e) r (by simp [beN_len]) hr
  rw [beV_beN 8 e (by omega), beN_len] at c
  refine spec_of_run ttok mixed (T0 := 33587) (ts := [.cell 4 52]) 21 rfl rfl rfl rfl (by simp) rfl ?_
  conv => whnf
  repeat' (first | with_reducible apply True.intro | ((apply Same.mk rfl); (conv => whnf)) | ((first | (apply CallN.mk (c)) | ((with_reducible apply Bif.beq) <;> intro h <;> (try simp only [lns] at h) <;> (try (exfalso; omega))) | (with_reducible apply Frz.l)) <;> conv => whnf) | fail)
theorem beV1 (c : UInt8) : beV [c] = c.toNat := by simp [beV]
theorem hdr_split (f : Frm) : hdrM f ++ f.mic = [firstF f.c] ++ ([240] ++ ([f.seq] ++ (beN 2 f.pan ++ (beN 8 f.dst ++ (beN 8 f.src ++ (beN 4 f.ctr ++ ([f.key] ++ (f.pay ++ f.mic)))))))) := by
  simp [hdrM]
theorem k_parse (f : Frm) (hs : f.sec = true) (hp : f.pay.length ≤ 95) (hm : f.mic.length = 4) (ok : OkN f) : Con Tryz.prog 109 [bys (hdrM f ++ f.mic)] [] (.tup [frmV f, bool true]) [] := by
  refine Con.cl (r := .tup [frmS f (.ov 1 0 0 f.pay.length) (.ov 1 1 0 4), bool true]) (hp' := [.arr none 1 (lst b8 f.pay), .arr none 1 (lst b8 f.mic)]) ?_
    (.tup (.cons (.aggC (.wk rfl .rfl) (.aggC (.wk rfl .rfl) (.aggC (.wk rfl .rfl) (.aggC (.wk rfl .rfl) (.aggC (.wk rfl .rfl) (.aggC (.wk rfl .rfl) (.aggC (.wk rfl .rfl) (.aggC (.wk rfl .rfl) (.aggC (.wk rfl .rfl) (.aggC (.wk rfl .rfl) (.aggC (.all rfl rfl) (.aggC (.all rfl hm.symm) .aggN)))))))))))) (.cons (.wk rfl .rfl) .nil))) rfl
  rw [hdr_split]
  obtain ⟨c, sec, seq, pan, dst, src, ctr, key, pay, mic⟩ := f
  obtain ⟨o1, o2, o3, o4⟩ := ok
  dsimp only at hs hp hm o1 o2 o3 o4 ⊢
  subst hs
  have lp : (pay ++ mic).length = pay.length + 4 := by simp [hm]
  have epay : (pay ++ mic).take pay.length = pay := by simp
  have emic : (pay ++ mic).drop pay.length = mic := by simp
  generalize hpm : pay ++ mic = pm at lp epay emic
  have n1 := k_next [firstF c] ([240] ++ ([seq] ++ (beN 2 pan ++ (beN 8 dst ++ (beN 8 src ++ (beN 4 ctr ++ ([key] ++ pm))))))) (by simp) (by simp [beN_len]; omega)
  have n2 := k_next [240] ([seq] ++ (beN 2 pan ++ (beN 8 dst ++ (beN 8 src ++ (beN 4 ctr ++ ([key] ++ pm)))))) (by simp) (by simp [beN_len]; omega)
  have n3 := k_next [seq] (beN 2 pan ++ (beN 8 dst ++ (beN 8 src ++ (beN 4 ctr ++ ([key] ++ pm))))) (by simp) (by simp [beN_len]; omega)
  have n4 := k_next (beN 2 pan) (beN 8 dst ++ (beN 8 src ++ (beN 4 ctr ++ ([key] ++ pm)))) (by simp [beN_len]) (by simp [beN_len]; omega)
  have n5 := k_raddr dst (beN 8 src ++ (beN 4 ctr ++ ([key] ++ pm))) o2 (by simp [beN_len]; omega)
  have n6 := k_raddr src (beN 4 ctr ++ ([key] ++ pm)) o3 (by simp [beN_len]; omega)
  have n7 := k_next (beN 4 ctr) ([key] ++ pm) (by simp [beN_len]) (by simp; omega)
  have n8 := k_next [key] pm (by simp) (by omega)
  have q1 := seq.toNat_lt
  have q2 := key.toNat_lt
  rw [beV1] at n3 n8
  rw [beV_beN 2 pan (by omega), beN_len] at n4
  rw [beV_beN 4 ctr (by omega), beN_len] at n7
  cases c <;> simp only [frmV, frmS, kindF, Bool.not_true, Bool.not_false, if_true, if_false, Bool.false_eq_true]
  · refine spec_of_run ttok mixed (T0 := 160708610831751730694141) (ts := [.cell 2 54, .tmp 3]) 92 rfl rfl rfl rfl (by simp) rfl ?_
    conv => whnf
    repeat' (first | ((apply Wr.eq (y := 104) (by decide)); (conv => whnf)) | ((apply Wr.eq (y := 240) (by decide)); (conv => whnf)) | ((apply Wr.eq (y := 1) (by decide)); (conv => whnf)) | ((first | ((with_reducible first | apply Wr.u8 | apply Wr.u16); focus omega) | ((with_reducible apply Need.mk); focus omega) | (apply CallN.mk (n1)) | (apply CallN.mk (n2)) | (apply CallN.mk (n3)) | (apply CallN.mk (n4)) | ((with_reducible apply Bif.bne) <;> intro h <;> (try simp only [lns] at h) <;> (try (exfalso; omega))) | (with_reducible apply Frz.l)) <;> conv => whnf) | fail)
    refine LoopN.unr 3 ttok mixed (T0 := 160708610831751730694141) ?_
    conv => whnf
    repeat' (first | with_reducible apply True.intro | ((apply Wr.eq (y := 1) (by decide)); (conv => whnf)) | ((apply Wr.eq (y := 3) (by decide)); (conv => whnf)) | ((apply Elem.mk _ rfl); (conv => whnf)) | ((apply Need.mk (by decide)); (conv => whnf)) | ((apply Nm.mk (nm_pre (m := pay.length) (by omega))); (conv => whnf)) | ((apply Nm.mk (nm_tail (n := pay.length) (by omega))); (conv => whnf)) | ((apply Same.mk (by rw [epay])); (conv => whnf)) | ((apply Same.mk (by rw [emic])); (conv => whnf)) | ((apply Same.mk rfl); (conv => whnf)) | ((first | ((with_reducible apply Nm.mk); focus ((try simp only [lns, lp]); exact rfl)) | ((with_reducible first | apply Wr.i64 | apply Wr.u8 | apply Wr.u32); focus omega) | ((with_reducible apply Need.mk); focus first | (simp only [lns, lp]; omega) | kernel_rfl | (unfold roomOK; simp only [lns, lp]; omega)) | (apply CallN.mk (n5)) | (apply CallN.mk (n6)) | (apply CallN.mk (n7)) | (apply CallN.mk (n8)) | (with_reducible apply Bif.F) | ((with_reducible first | apply Bif.dec | apply Bif.bne) <;> intro h <;> (try simp only [lns, lp] at h) <;> (try first | (exfalso; omega) | (exact absurd h (by decide)))) | ((with_reducible apply Same.mk); focus omega) | (with_reducible apply Cut.l) | (with_reducible apply Frz.l)) <;> conv => whnf) | fail)
  · refine spec_of_run ttok mixed (T0 := 160708610831751730694141) (ts := [.cell 2 54, .tmp 3]) 92 rfl rfl rfl rfl (by simp) rfl ?_
    conv => whnf
    repeat' (first | ((apply Wr.eq (y := 200) (by decide)); (conv => whnf)) | ((apply Wr.eq (y := 240) (by decide)); (conv => whnf)) | ((apply Wr.eq (y := 3) (by decide)); (conv => whnf)) | ((first | ((with_reducible first | apply Wr.u8 | apply Wr.u16); focus omega) | ((with_reducible apply Need.mk); focus omega) | (apply CallN.mk (n1)) | (apply CallN.mk (n2)) | (apply CallN.mk (n3)) | (apply CallN.mk (n4)) | ((with_reducible apply Bif.bne) <;> intro h <;> (try simp only [lns] at h) <;> (try (exfalso; omega))) | (with_reducible apply Frz.l)) <;> conv => whnf) | fail)
    refine LoopN.unr 3 ttok mixed (T0 := 160708610831751730694141) ?_
    conv => whnf
    repeat' (first | with_reducible apply True.intro | ((apply Wr.eq (y := 1) (by decide)); (conv => whnf)) | ((apply Wr.eq (y := 3) (by decide)); (conv => whnf)) | ((apply Elem.mk _ rfl); (conv => whnf)) | ((apply Need.mk (by decide)); (conv => whnf)) | ((apply Nm.mk (nm_pre (m := pay.length) (by omega))); (conv => whnf)) | ((apply Nm.mk (nm_tail (n := pay.length) (by omega))); (conv => whnf)) | ((apply Same.mk (by rw [epay])); (conv => whnf)) | ((apply Same.mk (by rw [emic])); (conv => whnf)) | ((apply Same.mk rfl); (conv => whnf)) | ((first | ((with_reducible apply Nm.mk); focus ((try simp only [lns, lp]); exact rfl)) | ((with_reducible first | apply Wr.i64 | apply Wr.u8 | apply Wr.u32); focus omega) | ((with_reducible apply Need.mk); focus first | (simp only [lns, lp]; omega) | kernel_rfl | (unfold roomOK; simp only [lns, lp]; omega)) | (apply CallN.mk (n5)) | (apply CallN.mk (n6)) | (apply CallN.mk (n7)) | (apply CallN.mk (n8)) | (with_reducible apply Bif.F) | ((with_reducible first | apply Bif.dec | apply Bif.bne) <;> intro h <;> (try simp only [lns, lp] at h) <;> (try first | (exfalso; omega) | (exact absurd h (by decide)))) | ((with_reducible apply Same.mk); focus omega) | (with_reducible apply Cut.l) | (with_reducible apply Frz.l)) <;> conv => whnf) | fail)
end Go.Fw
