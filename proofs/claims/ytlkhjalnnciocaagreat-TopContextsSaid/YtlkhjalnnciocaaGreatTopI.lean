/- Frames: Decode. -/
import Derived.Test.YtlkhjalnnciocaaGreatTopH
namespace Go.Fw
open Go.Proofs
set_option maxHeartbeats 8000000
set_option maxRecDepth 8000
def nilV : SV := .v (.slice none 0 0)
def frm0V : SV := .agg [int 0, bool false, bool false, bool false, .v (.int .u8 0), .v (.int .u16 0), adrV adr0, adrV adr0, .v (.int .u32 0), .v (.int .u8 0), nilV, nilV]
theorem k_decBad (b : List UInt8) (h1 : 5 ≤ b.length) (h2 : b.length ≤ 127) (hc : crcOK b = false) : Con Tryz.prog 46 [bys b] [] (.tup [frm0V, int 6]) [] := by
  have c := fun t => k_Check b t (by omega)
  rw [hc] at c
  refine spec_of_run ttok mixed (T0 := 140746078560765) (ts := [.cell 2 54, .tmp 3]) 50 rfl rfl rfl rfl (by simp) rfl ?_
  conv => whnf
  repeat' (first | with_reducible apply True.intro | ((apply Same.mk rfl); (conv => whnf)) | ((first | ((with_reducible apply Nm.mk); focus ((try simp only [lns]); exact rfl)) | (apply CallN.mk (c _)) | (with_reducible apply Bif.F) | ((with_reducible apply Bif.dec) <;> intro h <;> (try simp only [lns] at h) <;> (try (exfalso; omega))) | (with_reducible apply Bif.not) | (with_reducible apply Frz.l)) <;> conv => whnf) | fail)
theorem k_frDecode (f : Frm) (hs : f.sec = true) (hp : f.pay.length ≤ 95) (hm : f.mic.length = 4) (ok : OkN f) : Con Tryz.prog 46 [bys (encM f)] [] (.tup [frmV f, int 0]) [] := by
  have hl := encM_len hm
  have c := fun t => k_Check (encM f) t (by omega)
  have hc : crcOK (encM f) = true := crcOK_A _
  rw [hc] at c
  have cp := k_parse f hs hp hm ok
  have ce := k_frEncode f hs hp hm ok
  have cb := fun t1 t2 => k_bytesEqual (encM f) (encM f) t1 t2
  rw [decide_eq_true rfl] at cb
  have et : (encM f).take ((encM f).length - 2) = hdrM f ++ f.mic := by
    rw [encM, crcA_len, Nat.add_sub_cancel]; unfold crcA; rw [List.take_left' rfl]
  have hE : f.pay.length ≤ 95 := hp
  generalize encM f = E at *
  generalize hdrM f ++ f.mic = H at *
  have en : List.take ((E.length : Int) - 2).toNat (List.drop 0 (lst b8 E)) = lst b8 H := by
    rw [List.drop_zero, lst_take, ← et]; congr 2; omega
  refine spec_of_run ttok mixed (T0 := 140746078560765) (ts := [.cell 2 54, .tmp 3]) 50 rfl rfl rfl rfl (by simp) rfl ?_
  conv => whnf
  repeat' (first | with_reducible apply True.intro | ((apply Nm.mk en); (conv => whnf)) | ((apply Same.mk rfl); (conv => whnf)) | ((first | ((with_reducible apply Nm.mk); focus ((try simp only [lns]); exact rfl)) | ((with_reducible apply Wr.i64); focus omega) | ((with_reducible apply Need.mk); focus (simp only [lns]; omega)) | (apply CallN.mk (c _)) | (apply CallN.mk (cp)) | (apply CallN.mk (ce)) | (apply CallN.mk (cb _ _)) | (with_reducible first | apply Bif.T | apply Bif.F) | ((with_reducible first | apply Bif.dec | apply Bif.bne) <;> intro h <;> (try simp only [lns] at h) <;> (try (exfalso; omega))) | (with_reducible apply Bif.not) | (with_reducible apply Frz.l)) <;> conv => whnf) | fail)
end Go.Fw
