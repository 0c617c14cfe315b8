/- Reactive: what is spoiled, what is known; Acts, Hears. -/
import Derived.Test.YtmblmljcjmmlgaaReaO
namespace Go.Fw
open Go.Proofs
set_option maxHeartbeats 16000000
set_option maxRecDepth 4000
theorem k_small (r : Rea) (h : r.paths.length ≤ 9223372036854775807 ∧ r.srch.length ≤ 9223372036854775807 ∧ r.seen.length ≤ 9223372036854775807) : Con Try.prog 19 [reaF r] [] (bool (decide (r.paths.length ≤ 70 ∧ r.srch.length ≤ 70 ∧ r.seen.length ≤ 70))) [] := by
  refine spec_of_run ttok mixed (T0 := 7) (ts := [.tmp 2]) 19 rfl rfl rfl rfl (by simp) rfl ?_
  conv => whnf
  repeat' (first | ((first | ((with_reducible apply Nm.mk); focus ((try simp only [lns]); exact rfl)) | (with_reducible first | apply Bif.T | apply Bif.F) | ((with_reducible apply Bif.dec) <;> intro h <;> (try simp only [lns] at h))) <;> conv => whnf) | fail)
  all_goals (apply Same.bool (by rw [Bool.eq_iff_iff]; simp <;> omega); (conv => whnf); repeat' (first | with_reducible apply True.intro | fail))
theorem clean_rea1 (s n : Int) (p q : List Pth) (u : List Dsc) (a b c : Nat) : CleanP (.agg [.v (.int .u64 s), .v (.int .u16 n), .ov 6 0 0 a, .ov 3 1 0 b, .ov 6 2 0 c]) [.arr none 6 (lst pthV p), .arr none 3 (lst dscV u), .arr none 6 (lst pthV q)] :=
  ⟨rfl, fun ob ho => by
    simp only [List.mem_cons, List.not_mem_nil, or_false] at ho
    rcases ho with rfl | rfl | rfl
    · exact cl_lst fun _ => rfl
    · exact cl_lst fun _ => rfl
    · exact cl_lst fun _ => rfl⟩
/-- A state whose keys are no negative numbers, with few parts. -/
structure ReaW (r : Rea) : Prop where
  p : ∀ x ∈ r.paths, 0 ≤ x.to
  d : ∀ x ∈ r.srch, 0 ≤ x.to
  s : ∀ x ∈ r.seen, 0 ≤ x.to
  lp : r.paths.length ≤ 1000
  ld : r.srch.length ≤ 1000
  ls : r.seen.length ≤ 1000
theorem ReaW.ok {r : Rea} (h : ReaW r) : ReaOK r := ⟨h.p, h.d, h.s, Nat.le_trans h.lp (by omega), Nat.le_trans h.ld (by omega), Nat.le_trans h.ls (by omega)⟩
theorem ReaV.w {r : Rea} (h : ReaV r) : ReaW r := ⟨h.p, h.d, h.s, Nat.le_trans (okL_len h.iff.2.1) (by omega), Nat.le_trans (okL_len h.iff.2.2.1) (by omega), Nat.le_trans (okL_len h.iff.2.2.2) (by omega)⟩
theorem ReaV.ok' {r : Rea} (h : ReaV r) (n : Int) : ReaOK { r with self := n } := ⟨h.p, h.d, h.s, h.ok.lp, h.ok.ld, h.ok.ls⟩
theorem mem_snoc {α : Type} {P : α → Prop} {l : List α} {x : α} (h : ∀ y ∈ l, P y) (hx : P x) : ∀ y ∈ l ++ [x], P y := fun y hy => by
  rcases List.mem_append.1 hy with hy | hy
  · exact h y hy
  · rw [List.mem_singleton.1 hy]; exact hx
theorem mem_snoc2 {α : Type} {P : α → Prop} {l : List α} {x : α} (h : ∀ y ∈ l, P y) (hx : P x) : ∀ y ∈ l ++ [x, x], P y := fun y hy => by
  rcases List.mem_append.1 hy with hy | hy
  · exact h y hy
  · simp only [List.mem_cons, List.not_mem_nil, or_false, or_self] at hy
    rw [hy]; exact hx
theorem k_spoiled (l : List Int) (k : Int) (r : Rea) (hk : 0 ≤ k) (hl : l.length ≤ 400) (hV : ReaV r) (h0 : 0 ≤ r.self) :
    ∃ q hp', (∃ (x : Rea) (k' : Int), q = reaO x 4 5 6 ∧ hp' = .cells (tape l k') :: (reaH r ++ reaH x) ∧ ReaOK x ∧ 0 ≤ k') ∧
      ConK Try.prog 25 [.pb 0 [], reaO r 1 2 3] (.cells (tape l k) :: reaH r) q hp' := by
  have c1 := k_Copy r hV.ok
  have hlp : r.paths.length ≤ 64 := okL_len hV.iff.2.1
  have hld : r.srch.length ≤ 64 := okL_len hV.iff.2.2.1
  have hls : r.seen.length ≤ 64 := okL_len hV.iff.2.2.2
  dsimp only [reaO, reaH, List.cons_append, List.nil_append] at c1 ⊢
  refine spec_of_runRK ttok mixed (T0 := 75854169058399085922363) (ts := [.cell 4 32]) 86 rfl rfl rfl rfl (by simp) rfl ?_
  conv => whnf
  repeat' (first | ((with_reducible apply Need.mk); (focus (exact clean_rea1 _ _ _ _ _ _ _ _)); (conv => whnf)) | ((first | (with_reducible first | apply Nm.snoc _ (pth_mk2 _ _ _ _ _ _) | apply Nm.snoc _ (dsc_mk _ _ _)) | ((with_reducible apply Nm.mk); focus ((try simp only [lns]); exact rfl)) | ((with_reducible apply Need.mk); focus first | (simp only [lns]; omega) | (unfold roomOK; simp only [lns]; omega)) | (refine CallN.ex (k_tape_Next l _ _ (by omega) hl (by omega)) ?_; rintro _ _ ⟨x, k', rfl, rfl, h1, h2, h3⟩) | (apply CallN.mk (c1)) | ((with_reducible apply Bif.beq) <;> intro h <;> (try simp only [lns] at h)) | (with_reducible first | apply Alt.l | apply GiveN.lend)) <;> conv => whnf) | fail)
  · have hx : ReaOK { r with self := 0 } := hV.ok' 0
    (refine ⟨_, _, ⟨_, k', rfl, rfl, hx, h3⟩, ?_⟩; conv => whnf); repeat' (first | with_reducible apply True.intro | ((with_reducible apply Same.mk); (focus (first | rfl | (simp; done) | (exact lst_app (f := pthV) r.paths [⟨99, 3, ⟨0, 5⟩, false, 0⟩, ⟨99, 3, ⟨0, 5⟩, false, 0⟩]) | fail)); (conv => whnf)) | ((with_reducible apply Cut.l) <;> conv => whnf) | fail)
  · have hx : ReaOK { r with paths := r.paths ++ [⟨99, 0, ⟨0, 5⟩, false, 0⟩] } := ⟨mem_snoc hV.p (by first | (show (0 : Int) ≤ 99; omega) | exact h0), hV.d, hV.s, by simp; omega, by simp; omega, by simp; omega⟩
    (refine ⟨_, _, ⟨_, k', rfl, rfl, hx, h3⟩, ?_⟩; conv => whnf); repeat' (first | with_reducible apply True.intro | ((with_reducible apply Same.mk); (focus (first | rfl | (simp; done) | (exact lst_app (f := pthV) r.paths [⟨99, 3, ⟨0, 5⟩, false, 0⟩, ⟨99, 3, ⟨0, 5⟩, false, 0⟩]) | fail)); (conv => whnf)) | ((with_reducible apply Cut.l) <;> conv => whnf) | fail)
  · have hx : ReaOK { r with paths := r.paths ++ [⟨99, 3, ⟨0, 65535⟩, false, 0⟩] } := ⟨mem_snoc hV.p (by first | (show (0 : Int) ≤ 99; omega) | exact h0), hV.d, hV.s, by simp; omega, by simp; omega, by simp; omega⟩
    (refine ⟨_, _, ⟨_, k', rfl, rfl, hx, h3⟩, ?_⟩; conv => whnf); repeat' (first | with_reducible apply True.intro | ((with_reducible apply Same.mk); (focus (first | rfl | (simp; done) | (exact lst_app (f := pthV) r.paths [⟨99, 3, ⟨0, 5⟩, false, 0⟩, ⟨99, 3, ⟨0, 5⟩, false, 0⟩]) | fail)); (conv => whnf)) | ((with_reducible apply Cut.l) <;> conv => whnf) | fail)
  · have hx : ReaOK { r with paths := r.paths ++ [⟨r.self, 3, ⟨0, 5⟩, false, 0⟩] } := ⟨mem_snoc hV.p (by first | (show (0 : Int) ≤ 99; omega) | exact h0), hV.d, hV.s, by simp; omega, by simp; omega, by simp; omega⟩
    (refine ⟨_, _, ⟨_, k', rfl, rfl, hx, h3⟩, ?_⟩; conv => whnf); repeat' (first | with_reducible apply True.intro | ((with_reducible apply Same.mk); (focus (first | rfl | (simp; done) | (exact lst_app (f := pthV) r.paths [⟨99, 3, ⟨0, 5⟩, false, 0⟩, ⟨99, 3, ⟨0, 5⟩, false, 0⟩]) | fail)); (conv => whnf)) | ((with_reducible apply Cut.l) <;> conv => whnf) | fail)
  · have hx : ReaOK { r with seen := r.seen ++ [⟨99, 3, ⟨0, 5⟩, false, 0⟩] } := ⟨hV.p, hV.d, mem_snoc hV.s (by show (0 : Int) ≤ 99; omega), by simp; omega, by simp; omega, by simp; omega⟩
    (refine ⟨_, _, ⟨_, k', rfl, rfl, hx, h3⟩, ?_⟩; conv => whnf); repeat' (first | with_reducible apply True.intro | ((with_reducible apply Same.mk); (focus (first | rfl | (simp; done) | (exact lst_app (f := pthV) r.paths [⟨99, 3, ⟨0, 5⟩, false, 0⟩, ⟨99, 3, ⟨0, 5⟩, false, 0⟩]) | fail)); (conv => whnf)) | ((with_reducible apply Cut.l) <;> conv => whnf) | fail)
  · have hx : ReaOK { r with srch := r.srch ++ [⟨99, 0, 0⟩] } := ⟨hV.p, mem_snoc hV.d (by show (0 : Int) ≤ 99; omega), hV.s, by simp; omega, by simp; omega, by simp; omega⟩
    (refine ⟨_, _, ⟨_, k', rfl, rfl, hx, h3⟩, ?_⟩; conv => whnf); repeat' (first | with_reducible apply True.intro | ((with_reducible apply Same.mk); (focus (first | rfl | (simp; done) | (exact lst_app (f := pthV) r.paths [⟨99, 3, ⟨0, 5⟩, false, 0⟩, ⟨99, 3, ⟨0, 5⟩, false, 0⟩]) | fail)); (conv => whnf)) | ((with_reducible apply Cut.l) <;> conv => whnf) | fail)
  · have hx : ReaOK { r with srch := r.srch ++ [⟨99, 1, -1⟩] } := ⟨hV.p, mem_snoc hV.d (by show (0 : Int) ≤ 99; omega), hV.s, by simp; omega, by simp; omega, by simp; omega⟩
    (refine ⟨_, _, ⟨_, k', rfl, rfl, hx, h3⟩, ?_⟩; conv => whnf); repeat' (first | with_reducible apply True.intro | ((with_reducible apply Same.mk); (focus (first | rfl | (simp; done) | (exact lst_app (f := pthV) r.paths [⟨99, 3, ⟨0, 5⟩, false, 0⟩, ⟨99, 3, ⟨0, 5⟩, false, 0⟩]) | fail)); (conv => whnf)) | ((with_reducible apply Cut.l) <;> conv => whnf) | fail)
  · have hx : ReaOK { r with paths := r.paths ++ [⟨99, 3, ⟨0, 5⟩, false, -1⟩] } := ⟨mem_snoc hV.p (by first | (show (0 : Int) ≤ 99; omega) | exact h0), hV.d, hV.s, by simp; omega, by simp; omega, by simp; omega⟩
    (refine ⟨_, _, ⟨_, k', rfl, rfl, hx, h3⟩, ?_⟩; conv => whnf); repeat' (first | with_reducible apply True.intro | ((with_reducible apply Same.mk); (focus (first | rfl | (simp; done) | (exact lst_app (f := pthV) r.paths [⟨99, 3, ⟨0, 5⟩, false, 0⟩, ⟨99, 3, ⟨0, 5⟩, false, 0⟩]) | fail)); (conv => whnf)) | ((with_reducible apply Cut.l) <;> conv => whnf) | fail)
  · have hx : ReaOK { r with paths := r.paths ++ [⟨99, 3, ⟨0, 5⟩, false, 0⟩, ⟨99, 3, ⟨0, 5⟩, false, 0⟩] } := ⟨mem_snoc2 hV.p (by show (0 : Int) ≤ 99; omega), hV.d, hV.s, by simp; omega, by simp; omega, by simp; omega⟩
    (refine ⟨_, _, ⟨_, k', rfl, rfl, hx, h3⟩, ?_⟩; conv => whnf); repeat' (first | with_reducible apply True.intro | ((with_reducible apply Same.mk); (focus (first | rfl | (simp; done) | (exact lst_app (f := pthV) r.paths [⟨99, 3, ⟨0, 5⟩, false, 0⟩, ⟨99, 3, ⟨0, 5⟩, false, 0⟩]) | fail)); (conv => whnf)) | ((with_reducible apply Cut.l) <;> conv => whnf) | fail)
def kq0 : Msg := ⟨1, 1, 2, 1, 0, false, 0, 32⟩
def kq1 : Msg := ⟨2, 1, 2, 0, 0, false, 0, 32⟩
def kx1 : Rea := ⟨1, 1, [], [⟨2, 3, 13⟩], []⟩
def kx2 : Rea := ⟨2, 0, [⟨1, 1, ⟨1, 256⟩, false, 26⟩], [], [⟨1, 0, ⟨1, 256⟩, false, 26⟩]⟩
def kx3 : Rea := ⟨1, 1, [⟨2, 2, ⟨0, 256⟩, false, 27⟩], [], []⟩
theorem kn1 : seekM (startM 1) 5 2 = (kx1, [⟨0, kq0⟩], 0) := by decide +kernel
theorem kn2 : hearM (startM 2) 6 1 256 kq0 = (kx2, [⟨1, kq1⟩], 0) := by decide +kernel
theorem kn3 : hearM kx1 7 2 256 kq1 = (kx3, [], 0) := by decide +kernel
theorem kn4 : nextM kx3 8 2 = (2, 0) := by decide +kernel
theorem kx1_ok : ReaOK kx1 := ⟨by decide, by decide, by decide, by decide, by decide, by decide⟩
theorem kx3_ok : ReaOK kx3 := ⟨by decide, by decide, by decide, by decide, by decide, by decide⟩
theorem k_known : Con Try.prog 18 [] [] (bool true) [] := by
  have c1 := k_xStart 1
  have c2 := k_xStart 2
  have c3 := k_xSeek (startM 1) 5 2 (startM_ok 1) (by omega)
  rw [kn1] at c3
  have c4 := k_xHear (startM 2) 6 1 256 kq0 (startM_ok 2) ⟨by decide, by decide⟩
  rw [kn2] at c4
  have c5 := k_xHear kx1 7 2 256 kq1 kx1_ok ⟨by decide, by decide⟩
  rw [kn3] at c5
  have c6 := k_xNext kx3 8 2 kx3_ok
  rw [kn4] at c6
  dsimp only [reaO, reaH, reaF, startM, kx1, kx2, kx3, kq0, kq1, List.cons_append, List.nil_append] at c1 c2 c3 c4 c5 c6
  refine spec_of_run ttok mixed (T0 := 73786976363557687039) (ts := [.tmp 0]) 98 rfl rfl rfl rfl (by simp) rfl ?_
  conv => whnf
  repeat' (first | with_reducible apply True.intro | ((with_reducible apply Need.mk); (focus (exact clean_rea _ _ _ _ _ _ _ _ _ _ _)); (conv => whnf)) | ((first | ((with_reducible apply Nm.mk); focus ((try simp only [lns]); exact rfl)) | ((with_reducible apply Need.mk); focus first | (simp only [lns]; omega) | exact CleanP.nil rfl | kernel_rfl) | ((with_reducible apply Elem.lst); focus (simp only [lns]; omega)) | (apply CallN.mk (c1)) | (apply CallN.mk (c2)) | (apply CallN.mk (c3)) | (apply CallN.mk (c4)) | (apply CallN.mk (c5)) | (apply CallN.mk (c6)) | (with_reducible first | apply Bif.T | apply Bif.F) | ((with_reducible first | apply Bif.beq | apply Bif.bne) <;> intro h <;> (try simp only [lns] at h) <;> (try first | (exfalso; omega) | (exact absurd rfl h))) | (apply Same.rfl) | (with_reducible apply GiveN.lend)) <;> conv => whnf) | fail)
end Go.Fw
