/- The sanity check. -/
import Derived.Test.YtlkhjalnnciocaaGreatSanF
namespace Go.Fw
open Go.Proofs
set_option maxHeartbeats 8000000
set_option maxRecDepth 8000
def q1V : SV := .agg [.v (.int .u8 0), .v (.int .u32 0), .v (.int .u8 17), .v (.int .u8 64), ipV (llA D0), ipV (llA D1), .v (.int .u16 0), .v (.int .u16 0), nilV]
theorem k_iDec0 (r : List UInt8) (hr : r.length ≤ 5000) : Con Tryz.prog 84 [bys (126 :: 51 :: r), lnkV D0, lnkV D1, nilV, int 0] [] (.tup [q1V, int 2, int 0]) [] := by
  have cs := k_start0 r hr
  have cf := k_rfields0 (126 :: 51 :: r) 2
  have u0 := fun id => k_rUni3 D0 (by decide) (126 :: 51 :: r) 2 id
  have u1 := fun id => k_rUni3 D1 (by decide) (126 :: 51 :: r) 2 id
  have fi := fun id => k_find0 id 0
  refine spec_of_run ttok mixed (T0 := 20769187753296022049305262685159391) (ts := [.cell 10 107, .tmp 11, .tmp 12]) 122 rfl rfl rfl rfl (by simp) rfl ?_
  conv => whnf
  repeat' (first | with_reducible apply True.intro | ((apply Same.mk rfl); (conv => whnf)) | ((first | ((with_reducible apply Need.mk); focus first | omega | kernel_rfl) | (apply CallN.mk (k_icheck0)) | (apply CallN.mk (cs)) | (apply CallN.mk (cf)) | (apply CallN.mk (fi _)) | (apply CallN.mk (u0 _)) | (apply CallN.mk (u1 _)) | (with_reducible apply Bif.T) | ((with_reducible apply Bif.bne) <;> intro h <;> (try simp only [lns] at h) <;> (try first | (exfalso; omega) | (exact absurd (by decide) h))) | (with_reducible apply Bif.not) | (with_reducible apply Frz.l)) <;> conv => whnf) | fail)
  done
end Go.Fw
