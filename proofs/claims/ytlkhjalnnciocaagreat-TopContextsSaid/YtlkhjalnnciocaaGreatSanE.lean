/- The sanity check's packet, read again. -/
import Derived.Test.YtlkhjalnnciocaaGreatSanD
namespace Go.Fw
open Go.Proofs
set_option maxHeartbeats 8000000
set_option maxRecDepth 8000
def rdV (b : List UInt8) (at_ : Nat) : SV := .agg [bys b, int (at_ : Int)]
theorem k_rnum (b : List UInt8) (at_ n : Nat) (h : 1 ≤ n ∧ n ≤ 8) (hb : b.length ≤ 10000) (ha : at_ + n ≤ b.length) :
    Con Tryz.prog 199 [.pb 0 [], int (n : Int)] [.cells (rdV b at_)] (.tup [q64 (beV ((b.drop at_).take n) : Int), int 0]) [.cells (rdV b (at_ + n))] := by
  have c := fun t => k_Uint b at_ n t (by omega) (by omega) (by omega)
  rw [uintM, if_pos (by omega), Int.toNat_natCast, Int.toNat_natCast] at c
  refine spec_of_run ttok mixed (T0 := 4194547) (ts := [.tmp 4, .tmp 5]) 32 rfl rfl rfl rfl (by simp) rfl ?_
  conv => whnf
  repeat' (first | with_reducible apply True.intro | ((apply Same.mk rfl); (conv => whnf)) | ((first | ((with_reducible apply Wr.i64); focus omega) | ((with_reducible apply Need.mk); focus kernel_rfl) | (apply CallN.mk (c _)) | (with_reducible apply Bif.T) | (with_reducible apply Bif.not) | (with_reducible apply Frz.l)) <;> conv => whnf) | fail)
theorem k_start0 (r : List UInt8) (hr : r.length ≤ 5000) : Con Tryz.prog 157 [.pb 0 []] [.cells (rdV (126 :: 51 :: r) 0)] (.tup [int 126, int 51, int 0, int 0]) [.cells (rdV (126 :: 51 :: r) 2)] := by
  have c1 := k_rnum (126 :: 51 :: r) 0 1 (by decide) (by simp; omega) (by simp)
  have c2 := k_rnum (126 :: 51 :: r) 1 1 (by decide) (by simp; omega) (by simp)
  refine spec_of_run ttok mixed (T0 := 2326109211865449469) (ts := [.tmp 2, .tmp 3, .tmp 4, .tmp 5]) 68 rfl rfl rfl rfl (by simp) rfl ?_
  conv => whnf
  repeat' (first | with_reducible apply True.intro | ((apply Wr.eq (y := 126) rfl); (conv => whnf)) | ((apply Wr.eq (y := 51) rfl); (conv => whnf)) | ((apply Same.mk rfl); (conv => whnf)) | ((first | (apply CallN.mk (c1)) | (apply CallN.mk (c2)) | (with_reducible apply Bif.F) | ((with_reducible first | apply Bif.dec | apply Bif.bne) <;> intro h <;> (try simp only [lns] at h) <;> (try first | (exfalso; omega) | (exact absurd (by decide) h))) | (with_reducible apply Frz.l)) <;> conv => whnf) | fail)
  done
theorem k_find0 (id : Int) (now : Int) : Con Tryz.prog 159 [int id, .pb 0 [], .pb 1 []] [.cells nilV, .cells (int now)] (.clo 160 [.pb 0 [], .pb 2 [], .pb 1 []]) [.cells nilV, .cells (int now), .cells (int id)] := by
  refine spec_of_run ttok mixed (T0 := 31) (ts := [.tmp 4]) 6 rfl rfl rfl rfl (by simp) rfl ?_
  conv => whnf
  repeat' (first | with_reducible apply True.intro | ((apply Same.mk rfl); (conv => whnf)) | ((with_reducible apply Frz.l) <;> conv => whnf) | fail)
  done
theorem k_rUni3 (e : Nat) (he : e ≤ 18446744073709551615) (b : List UInt8) (at_ : Nat) (id : Int) : Con Tryz.prog 162 [.pb 0 [], bool false, int 3, lnkV e, .clo 160 [.pb 1 [], .pb 2 [], .pb 3 []]]
    [.cells (rdV b at_), .cells nilV, .cells (int id), .cells (int 0)] (.tup [ipV (llA e), int 0]) [.cells (rdV b at_), .cells nilV, .cells (int id), .cells (int 0)] := by
  have ci := k_aIID e he
  have cj := k_aJoin llP (iidL e) llP_v
  rw [if_pos (by decide)] at cj
  have cm := k_aMulti (ipN llP.ip (iidL e))
  have h0 : gt (ipN llP.ip (iidL e)).1 0 ≠ 255 := by
    have : gt (ipN llP.ip (iidL e)).1 0 = 254 := rfl
    rw [this]; decide
  rw [decide_eq_false h0] at cm
  refine spec_of_run ttok mixed (T0 := 38846195984377904124919071) (ts := [.cell 10 67, .tmp 11]) 88 rfl rfl rfl rfl (by simp) rfl ?_
  conv => whnf
  repeat' (first | with_reducible apply True.intro | ((apply Same.mk rfl); (conv => whnf)) | ((first | (apply CallN.mk (ci)) | (apply CallN.mk (cj)) | (apply CallN.mk (cm)) | (apply CallN.mk (k_linkLocal)) | (with_reducible first | apply Bif.T | apply Bif.F) | ((with_reducible first | apply Bif.beq | apply Bif.bne) <;> intro h <;> (try simp only [lns] at h) <;> (try (exfalso; omega))) | (with_reducible apply Bif.not) | (with_reducible apply Frz.l)) <;> conv => whnf) | fail)
  done
theorem k_takeNo (n x : Int) (b : List UInt8) (at_ : Nat) : ConK Tryz.prog 200 [bool false, int n, q64 x, .pb 0 [], .pb 1 []] [.cells (int 0), .cells (.pb 2 []), .cells (rdV b at_)] (q64 x) [.cells (int 0), .cells (.pb 2 []), .cells (rdV b at_)] := by
  refine spec_of_runK ttok mixed (T0 := 67359) (ts := [.tmp 8]) 26 rfl rfl rfl rfl (by simp) rfl ?_
  conv => whnf
  repeat' (first | with_reducible apply True.intro | ((apply Same.mk rfl); (conv => whnf)) | ((first | (with_reducible first | apply Bif.T | apply Bif.F) | (with_reducible apply Bif.not) | (with_reducible apply Frz.l)) <;> conv => whnf) | fail)
  done
def q0V : SV := .agg [.v (.int .u8 0), .v (.int .u32 0), .v (.int .u8 17), .v (.int .u8 64), ipV ip0, ipV ip0, .v (.int .u16 0), .v (.int .u16 0), nilV]
theorem k_rfields0 (b : List UInt8) (at_ : Nat) : Con Tryz.prog 158 [.pb 0 [], int 126] [.cells (rdV b at_)] (.tup [q0V, int 0]) [.cells (rdV b at_)] := by
  have c := fun n x => k_takeNo n x b at_
  refine spec_of_run ttok mixed (T0 := 37788155270178388582391) (ts := [.cell 4 107, .tmp 5]) 79 rfl rfl rfl rfl (by simp) rfl ?_
  conv => whnf
  repeat' (first | with_reducible apply True.intro | ((with_reducible apply GiveN.keep []); (conv => whnf)) | ((apply Elem.mk _ rfl); (conv => whnf)) | ((apply Need.mk (by decide)); (conv => whnf)) | ((apply Same.mk rfl); (conv => whnf)) | ((first | ((with_reducible apply Nm.mk); focus ((try simp only [lns]); exact rfl)) | ((with_reducible first | apply Wr.u8 | apply Wr.u32); focus omega) | (apply CallKN.mk (c _ _)) | (with_reducible first | apply Bif.T | apply Bif.F) | ((with_reducible first | apply Bif.dec | apply Bif.beq | apply Bif.bne) <;> intro h <;> (try simp only [lns] at h) <;> (try first | (exfalso; omega) | (exact absurd h (by decide)))) | (with_reducible apply Frz.l)) <;> conv => whnf) | fail)
  done
end Go.Fw
