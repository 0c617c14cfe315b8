/- DetectionAnswers: messages, both answers, the walk. -/
import Derived.Test.YtmiicjoaaplklaaDetK
namespace Go.Fw
open Go.Proofs
set_option maxHeartbeats 4000000
/-- A message, but for its lists. -/
structure Mo where
  ty : Int
  hops : Int
  life : Int
  target : IP
  am : Int
  as_ : Int
  ae : Int
  oe : Int
  os_ : Int
  ot : Int
  ol : Int
  ho : Bool
  bv : Int
  bl : Int
  br : IP
  hb : Bool
def msgV (m : Mo) (p c : SV) : SV := .agg [.v (.int .u8 m.ty), .v (.int .u8 m.hops), .v (.int .u16 m.life), ipV m.target, .agg [.v (.int .i64 m.am), .v (.int .u16 m.as_), .v (.int .u64 m.ae)], .agg [.v (.int .u64 m.oe), .v (.int .u8 m.os_), .v (.int .u8 m.ot), .v (.int .u16 m.ol)], .v (.bool m.ho), p, c, .agg [.v (.int .u32 m.bv), .v (.int .u16 m.bl), ipV m.br], .v (.bool m.hb)]
def nilS : SV := .v (.slice none 0 0)
def mo0 : Mo := ⟨0, 0, 0, default, 0, 0, 0, 0, 0, 0, 0, false, 0, 0, default, false⟩
def IsSl (p : SV) : Prop := p = nilS ∨ ∃ rows, p = .fs .no 20 rows
structure MoOK (m : Mo) : Prop where
  sq : 0 ≤ m.os_ ∧ m.os_ ≤ 255
  lf : 0 ≤ m.ol ∧ m.ol ≤ 65535
/-- the answer: the registry, the message, the error -/
def ansM (r : List Clm) (now : Int) (m : Mo) : List Clm × Mo × Int :=
  if validR r = false ∨ (m.ho = true ∧ m.oe = 0) then ([], mo0, 1)
  else if ¬ (0 ≤ now ∧ now ≤ 1099511627776) then ([], mo0, 2)
  else if m.ty ≠ 157 ∨ m.ho = false then ([], mo0, 5)
  else ((reqM r now m.target m.oe m.os_ m.ol).1, ⟨158, 0, 0, m.target, 0, 0, 0, m.oe, m.os_, IntKind.wrap .u8 (reqM r now m.target m.oe m.os_ m.ol).2.1, m.ol, true, 0, 0, default, false⟩, 0)
theorem reqM_st (r : List Clm) (now : Int) (ip : IP) (eui seq life : Int) : 0 ≤ (reqM r now ip eui seq life).2.1 ∧ (reqM r now ip eui seq life).2.1 ≤ 3 := by
  unfold reqM; repeat' split
  all_goals simp
theorem reqM_err {r : List Clm} {now : Int} {ip : IP} {eui seq life : Int} (h : reqGood r now eui seq life) : (reqM r now ip eui seq life).2.2 = 0 := by
  unfold reqM; rw [if_pos h]; repeat' split
  all_goals rfl
theorem ans_good {r : List Clm} {now : Int} {m : Mo} (hm : MoOK m) (h1 : validR r = true) (h2 : ¬ (m.ho = true ∧ m.oe = 0)) (h3 : 0 ≤ now ∧ now ≤ 1099511627776) (h4 : m.ho = true) : reqGood r now m.oe m.os_ m.ol :=
  ⟨h1, fun h => h2 ⟨h4, h⟩, h3, ⟨hm.sq.1, by have := hm.sq; omega⟩, hm.lf.1, by have := hm.lf; omega⟩
theorem k_Answer (r : List Clm) (t : Tg) (now : Int) (m : Mo) (p c : SV) (hm : MoOK m) (hp : IsSl p) (hc : IsSl c) (hl : r.length ≤ 100000) :
    Con Try.prog 24 [.fs t 20 (lst clmV r), int now, msgV m p c] [] (.tup [.ov 20 0 0 (ansM r now m).1.length, msgV (ansM r now m).2.1 nilS nilS, int (ansM r now m).2.2]) [.arr none 20 (lst clmV (ansM r now m).1)] := by
  have cV := k_Valid r t (by omega)
  have cR := k_Request r t now m.target m.oe m.os_ m.ol (by omega)
  by_cases h1 : validR r = false ∨ (m.ho = true ∧ m.oe = 0)
  · rw [show ansM r now m = _ from if_pos h1]
    rcases hp with rfl | ⟨p, rfl⟩ <;> rcases hc with rfl | ⟨c, rfl⟩ <;>
    · refine spec_of_run ttok mixed (T0 := 1152921780055187431) (ts := [.tmp 6, .cell 7 59, .tmp 8]) 71 rfl rfl rfl rfl (by simp) rfl ?_
      conv => whnf
      repeat' (first | with_reducible apply True.intro | ((first | (with_reducible first | apply Nm.set _ (int_mk _) | apply Nm.snoc _ (int_mk _) | apply Nm.rep _ (int_mk _) | apply Nm.set _ (bool_mk _) | apply Nm.snoc _ (bool_mk _) | apply Nm.rep _ (bool_mk _) | apply Nm.set _ (rfl) | apply Nm.snoc _ (rfl) | apply Nm.rep _ (rfl)) | ((with_reducible apply Nm.mk); focus ((try simp only [lns]); exact rfl)) | ((with_reducible first | apply Wr.i64 | apply Wr.u8 | apply Wr.u16 | apply Wr.u32 | apply Wr.u64); focus omega) | ((with_reducible apply Need.mk); focus first | omega | (simp only [lns]; omega) | exact List.cons_ne_nil _ _ | exact CleanP.nil rfl | exact CleanP.cell rfl rfl | exact CleanP.lst rfl (fun _ => rfl) | kernel_rfl | (dsimp only; omega) | (unfold roomOK; simp only [lns]; omega)) | ((with_reducible apply Elem.lst); focus first | omega | (simp only [lns]; omega)) | (apply CallN.mk (cV)) | (apply CallN.mk (cR)) | (apply CallN.mk (k_isTime _)) | (with_reducible first | apply Bif.T | apply Bif.F) | ((with_reducible first | apply Bif.dec | apply Bif.beq | apply Bif.bne) <;> intro h <;> (try simp only [lns] at h) <;> (try first | (exfalso; omega) | (exact absurd True.intro h) | (rcases h1 with h1 | ⟨h1, h2⟩ <;> simp_all; done))) | (with_reducible first | apply Bif.not | apply Bif.and | apply Bif.or) | ((with_reducible apply Bif.mk) <;> intro h <;> (try first | (exfalso; omega) | (exact absurd True.intro h) | (rcases h1 with h1 | ⟨h1, h2⟩ <;> simp_all; done))) | (with_reducible apply Same.rfl) | (apply Same.int; focus first | rfl | omega | (dsimp only; omega) | (simp only [lns]; omega)) | (apply Same.bool; focus (with_reducible rfl)) | (apply Same.ov; (focus first | rfl | omega | (simp only [lns]; omega)); focus first | rfl | omega | (simp only [lns]; first | done | omega)) | ((with_reducible apply Same.mk); focus first | omega | (simp only [lns]; omega)) | (apply Same.rfl) | (with_reducible first | apply Alt.l | apply Sl3.l | apply Cut.l | apply Turn.l | apply GiveN.lend)) <;> conv => whnf) | fail)
  by_cases h2 : 0 ≤ now ∧ now ≤ 1099511627776
  · by_cases h3 : m.ty ≠ 157 ∨ m.ho = false
    · rw [show ansM r now m = ([], mo0, 5) by simp only [ansM, if_neg h1, h2, h3, if_true, not_true_eq_false, if_false, and_self]]
      rcases hp with rfl | ⟨p, rfl⟩ <;> rcases hc with rfl | ⟨c, rfl⟩ <;>
      · refine spec_of_run ttok mixed (T0 := 1152921780055187431) (ts := [.tmp 6, .cell 7 59, .tmp 8]) 71 rfl rfl rfl rfl (by simp) rfl ?_
        conv => whnf
        repeat' (first | with_reducible apply True.intro | ((first | (with_reducible first | apply Nm.set _ (int_mk _) | apply Nm.snoc _ (int_mk _) | apply Nm.rep _ (int_mk _) | apply Nm.set _ (bool_mk _) | apply Nm.snoc _ (bool_mk _) | apply Nm.rep _ (bool_mk _) | apply Nm.set _ (rfl) | apply Nm.snoc _ (rfl) | apply Nm.rep _ (rfl)) | ((with_reducible apply Nm.mk); focus ((try simp only [lns]); exact rfl)) | ((with_reducible first | apply Wr.i64 | apply Wr.u8 | apply Wr.u16 | apply Wr.u32 | apply Wr.u64); focus omega) | ((with_reducible apply Need.mk); focus first | omega | (simp only [lns]; omega) | exact List.cons_ne_nil _ _ | exact CleanP.nil rfl | exact CleanP.cell rfl rfl | exact CleanP.lst rfl (fun _ => rfl) | kernel_rfl | (dsimp only; omega) | (unfold roomOK; simp only [lns]; omega)) | ((with_reducible apply Elem.lst); focus first | omega | (simp only [lns]; omega)) | (apply CallN.mk (cV)) | (apply CallN.mk (cR)) | (apply CallN.mk (k_isTime _)) | (with_reducible first | apply Bif.T | apply Bif.F) | ((with_reducible first | apply Bif.dec | apply Bif.beq | apply Bif.bne) <;> intro h <;> (try simp only [lns] at h) <;> (try first | (exfalso; omega) | (exact absurd True.intro h) | (exact absurd h2 h) | (simp_all; done))) | (with_reducible first | apply Bif.not | apply Bif.and | apply Bif.or) | ((with_reducible apply Bif.mk) <;> intro h <;> (try first | (exfalso; omega) | (exact absurd True.intro h) | (exact absurd h2 h) | (simp_all; done))) | (with_reducible apply Same.rfl) | (apply Same.int; focus first | rfl | omega | (dsimp only; omega) | (simp only [lns]; omega)) | (apply Same.bool; focus (with_reducible rfl)) | (apply Same.ov; (focus first | rfl | omega | (simp only [lns]; omega)); focus first | rfl | omega | (simp only [lns]; first | done | omega)) | ((with_reducible apply Same.mk); focus first | omega | (simp only [lns]; omega)) | (apply Same.rfl) | (with_reducible first | apply Alt.l | apply Sl3.l | apply Cut.l | apply Turn.l | apply GiveN.lend)) <;> conv => whnf) | fail)
    · have hv : validR r = true := by cases hh : validR r; exact absurd (.inl hh) h1; rfl
      have h5 : m.ho = true := by cases hh : m.ho; exact absurd (.inr hh) h3; rfl
      have hg := ans_good hm hv (fun hh => h1 (.inr hh)) h2 h5
      have hs := reqM_st r now m.target m.oe m.os_ m.ol
      have he := reqM_err (ip := m.target) hg
      have ha : ansM r now m = ((reqM r now m.target m.oe m.os_ m.ol).1, ⟨158, 0, 0, m.target, 0, 0, 0, m.oe, m.os_, IntKind.wrap .u8 (reqM r now m.target m.oe m.os_ m.ol).2.1, m.ol, true, 0, 0, default, false⟩, 0) := by
        simp only [ansM, if_neg h1, h2, h3, not_true_eq_false, if_false, and_self]
      rw [ha]
      dsimp only
      have hw : IntKind.wrap .u8 (reqM r now m.target m.oe m.os_ m.ol).2.1 = (reqM r now m.target m.oe m.os_ m.ol).2.1 := by
        simp [IntKind.wrap, IntKind.bits, IntKind.signed]; omega
      rw [hw]
      rw [he] at cR
      obtain ⟨q1, q2, hq⟩ : ∃ q1 q2, reqM r now m.target m.oe m.os_ m.ol = (q1, q2, 0) := ⟨_, _, by rw [← he]⟩
      rw [hq] at hs cR ⊢
      dsimp only at hs cR ⊢
      rcases hp with rfl | ⟨p, rfl⟩ <;> rcases hc with rfl | ⟨c, rfl⟩ <;>
      · refine spec_of_run ttok mixed (T0 := 1152921780055187431) (ts := [.tmp 6, .cell 7 59, .tmp 8]) 71 rfl rfl rfl rfl (by simp) rfl ?_
        conv => whnf
        repeat' (first | with_reducible apply True.intro | ((with_reducible apply Wr.i64 (by have := hm.sq; have := hm.lf; omega)); conv => whnf) | ((first | (with_reducible first | apply Nm.set _ (int_mk _) | apply Nm.snoc _ (int_mk _) | apply Nm.rep _ (int_mk _) | apply Nm.set _ (bool_mk _) | apply Nm.snoc _ (bool_mk _) | apply Nm.rep _ (bool_mk _) | apply Nm.set _ (rfl) | apply Nm.snoc _ (rfl) | apply Nm.rep _ (rfl)) | ((with_reducible apply Nm.mk); focus ((try simp only [lns]); exact rfl)) | ((with_reducible first | apply Wr.i64 | apply Wr.u8 | apply Wr.u16 | apply Wr.u32 | apply Wr.u64); focus omega) | ((with_reducible apply Need.mk); focus first | omega | (simp only [lns]; omega) | exact List.cons_ne_nil _ _ | exact CleanP.nil rfl | exact CleanP.cell rfl rfl | exact CleanP.lst rfl (fun _ => rfl) | kernel_rfl | (dsimp only; omega) | (unfold roomOK; simp only [lns]; omega)) | ((with_reducible apply Elem.lst); focus first | omega | (simp only [lns]; omega)) | (apply CallN.mk (cV)) | (apply CallN.mk (cR)) | (apply CallN.mk (k_isTime _)) | (with_reducible first | apply Bif.T | apply Bif.F) | ((with_reducible first | apply Bif.dec | apply Bif.beq | apply Bif.bne) <;> intro h <;> (try simp only [lns] at h) <;> (try first | (exfalso; omega) | (exact absurd True.intro h) | (exact absurd h2 h) | (simp_all; done) | (exact absurd rfl h))) | (with_reducible first | apply Bif.not | apply Bif.and | apply Bif.or) | ((with_reducible apply Bif.mk) <;> intro h <;> (try first | (exfalso; omega) | (exact absurd True.intro h) | (exact absurd h2 h) | (simp_all; done) | (exact absurd rfl h))) | (with_reducible apply Same.rfl) | (apply Same.int; focus first | rfl | omega | (dsimp only; omega) | (simp only [lns]; omega)) | (apply Same.bool; focus (with_reducible rfl)) | (apply Same.ov; (focus first | rfl | omega | (simp only [lns]; omega)); focus first | rfl | omega | (simp only [lns]; first | done | omega)) | ((with_reducible apply Same.mk); focus first | omega | (simp only [lns]; omega)) | (apply Same.rfl) | (with_reducible first | apply Alt.l | apply Sl3.l | apply Cut.l | apply Turn.l | apply GiveN.lend)) <;> conv => whnf) | fail)
  · rw [show ansM r now m = ([], mo0, 2) by simp only [ansM, if_neg h1, h2, if_true, not_false_eq_true]]
    rcases hp with rfl | ⟨p, rfl⟩ <;> rcases hc with rfl | ⟨c, rfl⟩ <;>
    · refine spec_of_run ttok mixed (T0 := 1152921780055187431) (ts := [.tmp 6, .cell 7 59, .tmp 8]) 71 rfl rfl rfl rfl (by simp) rfl ?_
      conv => whnf
      repeat' (first | with_reducible apply True.intro | ((first | (with_reducible first | apply Nm.set _ (int_mk _) | apply Nm.snoc _ (int_mk _) | apply Nm.rep _ (int_mk _) | apply Nm.set _ (bool_mk _) | apply Nm.snoc _ (bool_mk _) | apply Nm.rep _ (bool_mk _) | apply Nm.set _ (rfl) | apply Nm.snoc _ (rfl) | apply Nm.rep _ (rfl)) | ((with_reducible apply Nm.mk); focus ((try simp only [lns]); exact rfl)) | ((with_reducible first | apply Wr.i64 | apply Wr.u8 | apply Wr.u16 | apply Wr.u32 | apply Wr.u64); focus omega) | ((with_reducible apply Need.mk); focus first | omega | (simp only [lns]; omega) | exact List.cons_ne_nil _ _ | exact CleanP.nil rfl | exact CleanP.cell rfl rfl | exact CleanP.lst rfl (fun _ => rfl) | kernel_rfl | (dsimp only; omega) | (unfold roomOK; simp only [lns]; omega)) | ((with_reducible apply Elem.lst); focus first | omega | (simp only [lns]; omega)) | (apply CallN.mk (cV)) | (apply CallN.mk (cR)) | (apply CallN.mk (k_isTime _)) | (with_reducible first | apply Bif.T | apply Bif.F) | ((with_reducible first | apply Bif.dec | apply Bif.beq | apply Bif.bne) <;> intro h <;> (try simp only [lns] at h) <;> (try first | (exfalso; omega) | (exact absurd True.intro h) | (exact absurd h h2) | (simp_all; done))) | (with_reducible first | apply Bif.not | apply Bif.and | apply Bif.or) | ((with_reducible apply Bif.mk) <;> intro h <;> (try first | (exfalso; omega) | (exact absurd True.intro h) | (exact absurd h h2) | (simp_all; done))) | (with_reducible apply Same.rfl) | (apply Same.int; focus first | rfl | omega | (dsimp only; omega) | (simp only [lns]; omega)) | (apply Same.bool; focus (with_reducible rfl)) | (apply Same.ov; (focus first | rfl | omega | (simp only [lns]; omega)); focus first | rfl | omega | (simp only [lns]; first | done | omega)) | ((with_reducible apply Same.mk); focus first | omega | (simp only [lns]; omega)) | (apply Same.rfl) | (with_reducible first | apply Alt.l | apply Sl3.l | apply Cut.l | apply Turn.l | apply GiveN.lend)) <;> conv => whnf) | fail)
end Go.Fw
