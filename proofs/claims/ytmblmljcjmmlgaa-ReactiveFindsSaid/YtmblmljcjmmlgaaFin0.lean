/- ReactiveFinds: what it needs of the other laws' texts: small facts, the sanity check, the shapes of what comes in. -/
import Derived.Test.YtmblmljcjmmlgaaReaH
namespace Go.Fw
open Go.Proofs
set_option maxHeartbeats 4000000
set_option maxRecDepth 4000
theorem cmpD_lt {a b : Dis} : cmpD a b = -1 ↔ a ≠ b ∧ (newer a.seq b.seq = true ∨ (a.seq = b.seq ∧ a.metric < b.metric)) := by
  unfold cmpD
  split <;> rename_i h
  · simp [h]
  · split <;> rename_i g <;> simp [h, g]
theorem okI_nil {α : Type} [Inhabited α] {n : Nat} {ok : α → Bool} {κ : α → Int} : okL n ok cmpI κ [] = true := okL_iff_pw.2 ⟨by simp, fun x h => (by cases h), .nil⟩
theorem okI_one {α : Type} [Inhabited α] {n : Nat} {ok : α → Bool} {κ : α → Int} {x : α} (hn : 1 ≤ n) (h : ok x = true) : okL n ok cmpI κ [x] = true :=
  okL_iff_pw.2 ⟨by simpa using hn, fun y hy => by rw [List.mem_singleton.1 hy]; exact h, List.pairwise_singleton _ _⟩
theorem usb_nil (now t : Int) : usbP [] now t = false := rfl
theorem cl_lst {α : Type} {f : α → SV} (g : ∀ a, cl (f a) = true) {x : Option Nat} {E : Nat} {l : List α} : cleanOB (.arr x E (lst f l)) := fun s hs => by
  obtain ⟨a, _, rfl⟩ := List.mem_map.1 hs
  exact g a
theorem clean_rea (s n : Int) (p q : List Pth) (u : List Dsc) (l : List Snd) (a b c d : Nat) (e : Int) : CleanP (.tup [.agg [.v (.int .u64 s), .v (.int .u16 n), .ov 6 0 0 a, .ov 3 1 0 b, .ov 6 2 0 c], .ov 9 3 0 d, int e]) [.arr none 6 (lst pthV p), .arr none 3 (lst dscV u), .arr none 6 (lst pthV q), .arr none 9 (lst sndV l)] :=
  ⟨rfl, fun ob ho => by
    simp only [List.mem_cons, List.not_mem_nil, or_false] at ho
    rcases ho with rfl | rfl | rfl | rfl
    · exact cl_lst fun _ => rfl
    · exact cl_lst fun _ => rfl
    · exact cl_lst fun _ => rfl
    · exact cl_lst fun _ => rfl⟩
theorem startM_ok (s : Int) : ReaOK (startM s) := ⟨fun x h => (by cases h), fun x h => (by cases h), fun x h => (by cases h), by simp [startM], by simp [startM], by simp [startM]⟩
theorem startV {s n : Int} (h : s ≠ 0) : validX ⟨s, n, [], [], []⟩ = true := validX_iff.2 ⟨h, okL_iff_pw.2 ⟨by simp, fun x h => (by cases h), .nil⟩, okL_iff_pw.2 ⟨by simp, fun x h => (by cases h), .nil⟩, okL_iff_pw.2 ⟨by simp, fun x h => (by cases h), .nil⟩⟩
/-- A state that is under way. -/
theorem reaOK_0 (s n : Int) : ReaOK ⟨s, n, [], [], []⟩ := ⟨fun x h => (by cases h), fun x h => (by cases h), fun x h => (by cases h), by simp, by simp, by simp⟩
/-- What is searched, and the number, after so many sendings. -/
def oneD (self n t l a : Int) : Rea := ⟨self, n, [], [⟨t, l, a⟩], []⟩
theorem seek_one {self t now : Int} (hs : self ≠ 0) (ht : t ≠ 0) (hst : self ≠ t) (hn : isT now) : seekM (startM self) now t = (oneD self 1 t 3 (lat now 8), [⟨0, ⟨1, self, t, 1, 0, false, 0, 32⟩⟩], 0) := by
  unfold seekM
  rw [if_pos ⟨startV hs, ht, fun h => hst h.symm⟩, if_pos hn, if_neg (by simp [startM, usb_nil]; rfl), if_neg (by simp [startM])]
  rfl
def kq0 : Msg := ⟨1, 1, 2, 1, 0, false, 0, 32⟩
def kq1 : Msg := ⟨2, 1, 2, 0, 0, false, 0, 32⟩
def kx1 : Rea := ⟨1, 1, [], [⟨2, 3, 13⟩], []⟩
def kx2 : Rea := ⟨2, 0, [⟨1, 1, ⟨1, 256⟩, false, 26⟩], [], [⟨1, 0, ⟨1, 256⟩, false, 26⟩]⟩
def kx3 : Rea := ⟨1, 1, [⟨2, 2, ⟨0, 256⟩, false, 27⟩], [], []⟩
theorem kn1 : seekM (startM 1) 5 2 = (kx1, [⟨0, kq0⟩], 0) := by decide +kernel
theorem kn2 : hearM (startM 2) 6 1 256 kq0 = (kx2, [⟨1, kq1⟩], 0) := by decide +kernel
theorem kn3 : hearM kx1 7 2 256 kq1 = (kx3, [], 0) := by decide +kernel
theorem kn4 : nextM kx3 8 2 = (2, 0) := by decide +kernel
theorem kx1_ok : ReaOK kx1 := ⟨by decide, by decide, by decide, by decide, by decide, by decide⟩
theorem kx3_ok : ReaOK kx3 := ⟨by decide, by decide, by decide, by decide, by decide, by decide⟩
theorem k_known : Con Try.prog 18 [] [] (bool true) [] := by
  have c1 := k_xStart 1
  have c2 := k_xStart 2
  have c3 := k_xSeek (startM 1) 5 2 (startM_ok 1) (by omega)
  rw [kn1] at c3
  have c4 := k_xHear (startM 2) 6 1 256 kq0 (startM_ok 2) ⟨by decide, by decide⟩
  rw [kn2] at c4
  have c5 := k_xHear kx1 7 2 256 kq1 kx1_ok ⟨by decide, by decide⟩
  rw [kn3] at c5
  have c6 := k_xNext kx3 8 2 kx3_ok
  rw [kn4] at c6
  dsimp only [reaO, reaH, reaF, startM, kx1, kx2, kx3, kq0, kq1, List.cons_append, List.nil_append] at c1 c2 c3 c4 c5 c6
  refine spec_of_run ttok mixed (T0 := 73786976363557687039) (ts := [.tmp 0]) 98 rfl rfl rfl rfl (by simp) rfl ?_
  conv => whnf
  repeat' (first | with_reducible apply True.intro | ((with_reducible apply Need.mk); (focus (exact clean_rea _ _ _ _ _ _ _ _ _ _ _)); (conv => whnf)) | ((first | ((with_reducible apply Nm.mk); focus ((try simp only [lns]); exact rfl)) | ((with_reducible apply Need.mk); focus first | (simp only [lns]; omega) | exact CleanP.nil rfl | kernel_rfl) | ((with_reducible apply Elem.lst); focus (simp only [lns]; omega)) | (apply CallN.mk (c1)) | (apply CallN.mk (c2)) | (apply CallN.mk (c3)) | (apply CallN.mk (c4)) | (apply CallN.mk (c5)) | (apply CallN.mk (c6)) | (with_reducible first | apply Bif.T | apply Bif.F) | ((with_reducible first | apply Bif.beq | apply Bif.bne) <;> intro h <;> (try simp only [lns] at h) <;> (try first | (exfalso; omega) | (exact absurd rfl h))) | (apply Same.rfl) | (with_reducible apply GiveN.lend) | (with_reducible apply Frz.l)) <;> conv => whnf) | fail)
theorem shp_int {t d : Nat} {s : SV} (ht : tt t = .int .i64) (h : Shp Try.prog tt (d + 1) t s) : ∃ n, s = int n ∧ -9223372036854775808 ≤ n ∧ n ≤ 9223372036854775807 := by
  simp only [Shp, ht] at h
  obtain ⟨n, rfl, hn⟩ := h
  exact ⟨n, rfl, bounds_i64 hn⟩
theorem shp_ints {d : Nat} {s : SV} (h : Shp Try.prog tt (d + 2) 22 s) : ∃ l, s = .fs .no 1 (ints l) ∧ l.length ≤ maxLen := by
  obtain ⟨rows, rfl, hl, h⟩ := h
  obtain ⟨l, rfl, _⟩ := rows_of int (fun _ => True) fun r hr => let ⟨n, h1, _⟩ := shp_int (d := d) rfl (h 3 Try.underlying22 r hr); ⟨n, h1, trivial⟩
  exact ⟨l, rfl, by simpa using hl⟩
end Go.Fw
