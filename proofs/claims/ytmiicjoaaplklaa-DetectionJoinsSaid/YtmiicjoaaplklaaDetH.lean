/- DetectionRequests: the walk. -/
import Derived.Test.YtmiicjoaaplklaaDetS
namespace Go.Fw
open Go.Proofs
set_option maxHeartbeats 4000000
theorem Wr.mulw {x y : Int} {K : Int → Prop} (h : K (IntKind.wrap .i64 (x * y))) : Wr .i64 (x * y) K := ⟨h⟩
theorem k_Claims6 (l : List Int) (at_ : Int) (now : Int) (hk : 0 ≤ at_) (hl : l.length ≤ 400) (hb : 0 ≤ now ∧ now ≤ 1099511627776) :
    ∃ r hp', TapeClms l 6 r hp' ∧ Con Try.prog 13 [.pb 0 [], int 6, int now] [.cells (tape l at_)] r hp' :=
  k_world_Claims l at_ 6 now hk hl (by omega) hb
theorem k_DetectionRequests (raw : List Clm) (t : List Int) (now : Int) (ip : IP) (eui seq life : Int) :
    Con Try.prog 3 [.fs .no 20 (lst clmV raw), .fs .no 1 (ints t), int now, ipV ip, u64 eui, int seq, int life] [] (bool true) [] := by
  have ht : (t.take 400).length ≤ 400 := by simp; omega
  generalize hT : t.take 400 = l at ht
  have hN := k_made_New t
  rw [hT] at hN
  refine spec_of_run ttok mixed (T0 := 10470527) (ts := [.tmp 14]) 97 rfl rfl rfl rfl (by simp) rfl ?_
  conv => whnf
  repeat' (first | with_reducible apply True.intro | ((with_reducible apply GiveN.keep [1]); (conv => whnf); (refine CallKN.ex (k_world_Lookup l _ L (by omega) ht (by omega)) ?_); (rintro _ _ ⟨ip', k4, rfl, rfl, g1⟩); (conv => whnf)) | ((with_reducible apply GiveN.keep [1]); (conv => whnf); (refine CallKN.ex (k_spoiled l _ L (by omega) ht (by omega)) ?_); (rintro _ _ ⟨L', k7, rfl, rfl, i1, i2⟩); (conv => whnf)) | ((with_reducible apply Wr.mulw); (conv => whnf)) | ((first | ((with_reducible apply Nm.mk); focus ((try simp only [lns]); exact rfl)) | ((with_reducible apply Wr.i64); focus omega) | ((with_reducible apply Need.mk); focus first | (simp only [lns]; omega) | exact CleanP.nil rfl | kernel_rfl) | (apply CallN.mk (k_known)) | (apply CallN.mk (hN)) | (refine CallN.ex (k_world_Base l _ (by omega) ht) ?_; rintro _ _ ⟨b, k1, rfl, rfl, b1, b2, b3⟩) | (refine CallN.ex (k_Claims6 l _ b (by omega) ht (by omega)) ?_; rintro _ _ ⟨L, k2, rfl, rfl, c1, c2⟩) | (refine CallN.ex (k_world_Time l _ b (by omega) ht (by omega)) ?_; rintro _ _ ⟨tm, k3, rfl, rfl, d1, d2, d3⟩) | (refine CallN.ex (k_world_EUI l _ (by omega) ht) ?_; rintro _ _ ⟨eu, k5, rfl, rfl, e1, e2, e3⟩) | (refine CallN.ex (k_tape_Next l _ _ (by omega) ht (by omega)) ?_; rintro _ _ ⟨x, k6, rfl, rfl, f1, f2, f3⟩) | (apply CallN.mk (k_requests raw _ _ _ _ _ _ (by omega))) | (apply CallN.mk (k_requests L _ _ _ _ _ _ (by omega))) | (apply CallN.mk (k_requests _ _ _ ip _ _ _ (by omega))) | (with_reducible apply Bif.T) | ((with_reducible apply Bif.dec) <;> intro h <;> (try simp only [lns] at h)) | (with_reducible apply Same.rfl) | (with_reducible apply GiveN.lend)) <;> conv => whnf) | fail)
end Go.Fw
