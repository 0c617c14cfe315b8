/- DetectionRequests: what is spoiled, what is known, what the law asks. -/
import Derived.Test.YtmiicjoaaplklaaMakB
namespace Go.Fw
open Go.Proofs
set_option maxHeartbeats 4000000
/-- Some claims, of which one or none has been turned. -/
theorem k_spoiled (l : List Int) (k : Int) (L : List Clm) (hk : 0 ≤ k) (hl : l.length ≤ 400) (hL : L.length ≤ 1000) :
    ∃ r hp', (∃ (L' : List Clm) (k' : Int), r = .ov 20 2 0 L'.length ∧ hp' = [.cells (tape l k'), .arr none 20 (lst clmV L), .arr none 20 (lst clmV L')] ∧ L'.length ≤ L.length + 1 ∧ 0 ≤ k') ∧
      ConK Try.prog 19 [.pb 0 [], .ov 20 1 0 L.length] [.cells (tape l k), .arr none 20 (lst clmV L)] r hp' := by
  refine spec_of_runRK ttok mixed (T0 := 1154047679664752755) (ts := [.tmp 4]) 71 rfl rfl rfl rfl (by simp) rfl ?_
  conv => whnf
  repeat' (first | ((with_reducible apply GiveN.keep [0]); (conv => whnf); (refine CallKN.ex (k_Reverse_Clm L (by omega)) ?_); (rintro _ _ ⟨w, hw, _, rfl, rfl⟩); (conv => whnf)) | ((with_reducible apply Wr.sub1); (conv => whnf)) | ((first | (with_reducible apply Nm.set _ (clm_mk _ _ _ _ _)) | ((with_reducible apply Nm.mk); focus ((try simp only [lns, ipRows_take]); exact rfl)) | ((with_reducible apply Wr.i64); focus omega) | ((with_reducible apply Need.mk); focus first | omega | (simp only [lns, ipRows_take]; omega) | exact CleanP.lst rfl (fun _ => rfl)) | ((with_reducible apply Elem.lst); focus first | omega | (simp only [lns, ipRows_take]; omega)) | (apply CallN.mk (k_Clone_Clm L _ (by omega))) | (refine CallN.ex (k_tape_Next l _ _ (by omega) hl (by omega)) ?_; rintro _ _ ⟨x, k', rfl, rfl, h1, h2, h3⟩) | ((with_reducible apply Bif.beq) <;> intro h <;> (try simp only [lns, ipRows_take] at h)) | (with_reducible apply GiveN.lend)) <;> conv => whnf) | fail)
  · refine ⟨_, _, ⟨[clm0], k, rfl, rfl, by simp, hk⟩, ?_⟩
    conv => whnf
    repeat' (first | with_reducible apply True.intro | ((first | (with_reducible apply Same.rfl) | (apply Same.rfl) | (with_reducible apply Cut.l)) <;> conv => whnf) | fail)
  all_goals ((apply Ex2.mk (.ov 20 2 0 _) ([.cells (tape l _), .arr none 20 (lst clmV L), .arr none 20 (lst clmV _)])); (focus ((conv => whnf); repeat' (first | with_reducible apply True.intro | ((first | (with_reducible apply Same.rfl) | (with_reducible apply Cut.l)) <;> conv => whnf) | fail))); exact ⟨_, _, by first | rfl | (simp only [List.length_set]; done) | (rw [hw]), rfl, by (first | omega | (simp only [List.length_set]; omega)), by omega⟩)
theorem reqM_len (r : List Clm) (now : Int) (ip : IP) (eui seq life : Int) : (reqM r now ip eui seq life).1.length ≤ 64 := by
  by_cases h0 : (reqM r now ip eui seq life).2.2 = 0
  · exact validR_len (reqM_valid r h0)
  · by_cases hg : reqGood r now eui seq life
    · exfalso
      apply h0
      rw [reqM, if_pos hg]
      (repeat' split) <;> rfl
    · rw [reqM, if_neg hg]
      split <;> simp
/-- what the law compares -/
theorem k_requests (r : List Clm) (t : Tg) (now : Int) (ip : IP) (eui seq life : Int) (hl : r.length ≤ 100000) :
    Con Try.prog 15 [.fs t 20 (lst clmV r), int now, ipV ip, u64 eui, int seq, int life] [] (bool true) [] := by
  have c1 := k_Request r t now ip eui seq life hl
  have c2 := k_refRequest r t now ip eui seq life hl
  rw [← reqM_eq] at c2
  have hv : (reqM r now ip eui seq life).2.2 = 0 → validR (reqM r now ip eui seq life).1 = true := reqM_valid r
  have h64 := reqM_len r now ip eui seq life
  generalize reqM r now ip eui seq life = q at *
  obtain ⟨a, s, e⟩ := q
  dsimp only at c1 c2 hv h64
  refine spec_of_run ttok mixed (T0 := 520511) (ts := [.tmp 12]) 62 rfl rfl rfl rfl (by simp) rfl ?_
  conv => whnf
  repeat' (first | with_reducible apply True.intro | ((apply Same.bool (hv (by omega))); (conv => whnf)) | ((first | ((with_reducible apply Nm.mk); focus ((try simp only [lns, ipRows_take]); exact rfl)) | ((with_reducible apply Need.mk); focus first | (simp only [lns, ipRows_take]; omega) | exact CleanP.nil rfl) | (apply CallN.mk (c1)) | (apply CallN.mk (c2)) | (apply CallN.mk (k_Equal_Clm a a _ _ (by omega))) | (apply CallN.mk (k_Valid a _ (by omega))) | (with_reducible first | apply Bif.T | apply Bif.F) | ((with_reducible first | apply Bif.dec | apply Bif.beq | apply Bif.bne) <;> intro h <;> (try simp only [lns, ipRows_take] at h) <;> (try first | (exfalso; omega) | (exact absurd True.intro h))) | (apply Same.bool; focus (with_reducible rfl)) | (with_reducible apply GiveN.lend)) <;> conv => whnf) | fail)
def ip1 : IP := ⟨[1, 0, 0, 0, 0, 0, 0, 0, 0, 0, 0, 0, 0, 0, 0, 0], by decide⟩
theorem known1 : reqM [] 5 ip1 7 1 10 = ([⟨ip1, 7, 1, 5, 15⟩], 0, 0) := by kernel_rfl
theorem known2 : reqM [⟨ip1, 7, 1, 5, 15⟩] 6 ip1 8 1 10 = ([⟨ip1, 7, 1, 5, 15⟩], 1, 0) := by kernel_rfl
theorem k_known : Con Try.prog 10 [] [] (bool true) [] := by
  have c1 := k_Request [] .no 5 ip1 7 1 10 (by simp)
  rw [known1] at c1
  dsimp only at c1
  have c2 := k_Request [⟨ip1, 7, 1, 5, 15⟩] .no 6 ip1 8 1 10 (by simp)
  rw [known2] at c2
  dsimp only at c2
  refine spec_of_run ttok mixed (T0 := 111) (ts := [.tmp 0]) 41 rfl rfl rfl rfl (by simp) rfl ?_
  conv => whnf
  repeat' (first | with_reducible apply True.intro | ((first | ((with_reducible apply Nm.mk); focus ((try simp only [lns, ipRows_take]); exact rfl)) | ((with_reducible apply Need.mk); focus first | (simp only [lns, ipRows_take]; omega) | exact CleanP.nil rfl | exact CleanP.lst rfl (fun _ => rfl)) | (apply CallN.le (c1); focus ((repeat' (first | (with_reducible apply ArgLe.nil) | (exact ArgLe.nil) | (exact ArgLe.rfl) | (exact ArgLe.fs) | (exact True.intro) | (apply And.intro) | fail)); done)) | (apply CallN.mk (c2)) | (apply CallN.mk (k_Equal_Clm [⟨ip1, 7, 1, 5, 15⟩] [⟨ip1, 7, 1, 5, 15⟩] _ _ (by simp))) | (with_reducible apply Bif.T) | ((with_reducible apply Bif.beq) <;> intro h <;> (try simp only [lns, ipRows_take] at h) <;> (try (exfalso; omega))) | (apply Same.rfl) | (with_reducible apply GiveN.lend)) <;> conv => whnf) | fail)
end Go.Fw
