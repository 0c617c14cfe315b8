/- Made numbers, bytes, ports, addresses. -/
import Derived.Test.YtlkhjalnnciocaaGreatHipD

namespace Go.Fw
open Go.Proofs
set_option maxHeartbeats 8000000
set_option maxRecDepth 8000
def TapeBool (l : List Int) (r : SV) (hp' : List OB) : Prop := ∃ (b : Bool) (k' : Int), r = bool b ∧ hp' = [.cells (tape l k')] ∧ 0 ≤ k'
theorem k_tape_Bool (l : List Int) (k n : Int) (hk : 0 ≤ k) (hl : l.length ≤ 400) (hn : 0 < n ∧ n < 9223372036854775808) :
    ∃ r hp', TapeBool l r hp' ∧ Con Tryz.prog 88 [.pb 0 [], .v (.int .i64 n)] [.cells (tape l k)] r hp' := by
  refine spec_of_runR ttok mixed (T0 := 19) (ts := [.tmp 4]) 11 rfl rfl rfl rfl (by simp) rfl ?_
  conv => whnf
  repeat' (first | ((first | ((with_reducible apply Wr.i64); focus omega) | (refine CallN.ex (k_tape_Next l _ n (by omega) hl hn) ?_; rintro _ _ ⟨x, k', rfl, rfl, h1, h2, h3⟩) | (with_reducible apply Frz.l)) <;> conv => whnf) | fail)
  all_goals ((apply Ex2.mk (bool _) ([.cells (tape l _)])); (focus ((conv => whnf); repeat' (first | with_reducible apply True.intro | ((first | (with_reducible apply Same.rfl) | (apply Same.bool; focus (with_reducible rfl)) | (with_reducible apply Frz.l)) <;> conv => whnf) | fail))); exact ⟨_, _, rfl, rfl, by omega⟩)
theorem Wr.any8 {x : Int} {K : Int → Prop} (h : K (IntKind.wrap .u8 x)) : Wr .u8 x K := ⟨h⟩
theorem b8_wrap (x : Int) : SV.v (.int .u8 (IntKind.wrap .u8 x)) = b8 (UInt8.ofNat (IntKind.wrap .u8 x).toNat) := by
  have h : 0 ≤ IntKind.wrap .u8 x ∧ IntKind.wrap .u8 x ≤ 255 := by simp [IntKind.wrap, IntKind.bits, IntKind.signed]; omega
  unfold b8
  congr 2
  rw [UInt8.toNat_ofNat']
  omega
theorem k_Fill0 (l : List Int) (k : Int) (n : Nat) (hk : 0 ≤ k) (hl : l.length ≤ 400) (hn : n ≤ 100000) :
    ∃ r hp', (∃ (b : List UInt8) (k' : Int), r = .ov 1 1 0 n ∧ hp' = [.cells (tape l k'), .arr (some n) 1 (lst b8 b)] ∧ b.length = n ∧ 0 ≤ k') ∧ Con Tryz.prog 91 [.pb 0 [], int n] [.cells (tape l k)] r hp' := by
  refine spec_of_runR ttok mixed (T0 := 4194547) (ts := [.tmp 4]) 37 rfl rfl rfl rfl (by simp) rfl ?_
  conv => whnf
  repeat' (first | ((first | (with_reducible apply Nm.rep _ (b8_zero0)) | ((with_reducible apply Nm.mk); focus ((try simp only [lns]); exact rfl)) | ((with_reducible apply Wr.u8); focus omega) | ((with_reducible apply Need.mk); focus (unfold roomOK; simp only [lns]; omega)) | (refine CallN.ex (k_tape_Next l _ 256 (by omega) hl (by omega)) ?_; rintro _ _ ⟨x, k', rfl, rfl, h1, h2, h3⟩) | (with_reducible apply Frz.l)) <;> conv => whnf) | fail)
  rename_i x1 k1 a1 a2 a3 x2 k2 b1 b2 b3
  generalize hq : [x1, x2, 0, x, 7] = q
  have hq5 : q.length = 5 := by rw [← hq]; rfl
  refine loop_keep ttok mixed (T0 := 4194547) [1] (ι := {p : Nat × List UInt8 // p.1 ≤ n ∧ p.2.length = n})
    (fun p => [(5, .pb 1 []), (6, .ov 1 2 0 n), (7, int (p.1.1 : Int))]) (fun p => [.cells (tape l k'), .cells (.ba 5 q), .arr (some n) 1 (lst b8 p.1.2)]) (fun p => n - p.1.1) ⟨(0, List.replicate n 0), by simp, by simp⟩ ?_
  conv => whnf
  repeat' (first | ((apply Same.mk rfl); (conv => whnf)) | ((apply Same.mk (by rw [← hq]; rfl)); (conv => whnf)) | ((with_reducible apply Frz.l) <;> conv => whnf) | fail)
  rintro ⟨⟨i, b⟩, hi, hb⟩
  dsimp only at hi hb ⊢
  conv => whnf
  have hm : (i : Int).tmod 5 = ((i % 5 : Nat) : Int) := by rw [Int.tmod_eq_emod_of_nonneg (by omega)]; omega
  have hd : (i : Int).tdiv 5 = ((i / 5 : Nat) : Int) := by rw [Int.tdiv_eq_ediv_of_nonneg (by omega)]; omega
  by_cases hin : i < n
  · repeat' (first | ((with_reducible apply Wr.any8); (conv => whnf)) | ((first | (with_reducible apply Nm.set _ (b8_wrap _)) | ((with_reducible apply Nm.mk); focus ((try simp only [lns, hm, hd, hb]); exact rfl)) | ((with_reducible apply Wr.i64); focus omega) | ((with_reducible apply Need.mk); focus omega) | ((with_reducible apply Elem.lst); focus omega) | ((with_reducible apply Bif.dec) <;> intro h <;> (try simp only [lns, hm, hd, hb] at h) <;> (try (exfalso; omega))) | (with_reducible apply Frz.l)) <;> conv => whnf) | fail)
    (refine ⟨⟨(i + 1, b.set i (UInt8.ofNat (IntKind.wrap .u8 (q.getD (i % 5) 0 + IntKind.wrap .u8 ((i / 5 : Nat) : Int))).toNat)), by dsimp only; omega, by simpa using hb⟩, ?_⟩; (try dsimp only); conv => whnf); repeat' (first | with_reducible apply True.intro | ((first | ((with_reducible apply Need.mk); focus omega) | (with_reducible apply Same.rfl) | (apply Same.int; focus rfl) | (apply Same.rfl) | (with_reducible apply Turn.l) | (with_reducible apply Frz.l)) <;> conv => whnf) | fail)
  · repeat' (first | ((first | ((with_reducible apply Bif.dec) <;> intro h <;> (try simp only [lns] at h) <;> (try (exfalso; omega))) | (with_reducible apply Frz.l)) <;> conv => whnf) | fail)
    (refine ⟨_, _, ⟨b, k', rfl, rfl, hb, h3⟩, ?_⟩; conv => whnf); repeat' (first | with_reducible apply True.intro | ((first | (with_reducible apply Same.rfl) | (with_reducible apply Frz.l)) <;> conv => whnf) | fail)
theorem k_Fill (l : List Int) (k : Int) (n : Nat) (hk : 0 ≤ k) (hl : l.length ≤ 400) (hn : n ≤ 100000) :
    ∃ r hp', (∃ (b : List UInt8) (k' : Int), r = .fs .no 1 (lst b8 b) ∧ hp' = [.cells (tape l k')] ∧ b.length = n ∧ 0 ≤ k') ∧ Con Tryz.prog 91 [.pb 0 [], int n] [.cells (tape l k)] r hp' := by
  obtain ⟨r, hp', ⟨b, k', rfl, rfl, hb, hk'⟩, hc⟩ := k_Fill0 l k n hk hl hn
  subst hb
  refine ⟨_, _, ⟨b, k', rfl, rfl, rfl, hk'⟩, (hc.fz 1 (Nat.le_refl _) (.one (.wholeC (Nat.le_refl 1) rfl) (fun l h => by cases h)) rfl ?_ rfl rfl).wk (.one .tag (fun l h => by cases h))⟩
  intro k ob h1 h2
  match k, h1, h2 with
  | 1, _, h2 => cases h2; exact ⟨_, _, _, rfl⟩
theorem Wr.anyShl {x : Int} {n : Nat} {K : Int → Prop} (h : K (IntKind.wrap .u64 (x * 2 ^ n))) : Wr .u64 (x * 2 ^ n) K := ⟨h⟩
theorem Wr.anyAdd {x y : Int} {K : Int → Prop} (h : K (IntKind.wrap .u64 (IntKind.wrap .u64 x + y))) : Wr .u64 (IntKind.wrap .u64 x + y) K := ⟨h⟩
theorem Wr.anyP16 {x y : Int} {K : Int → Prop} (h : K (IntKind.wrap .u16 (x + y))) : Wr .u16 (x + y) K := ⟨h⟩
theorem Wr.anySub {y : Int} {K : Int → Prop} (h : K (IntKind.wrap .u64 (18446744073709551615 - y))) : Wr .u64 (18446744073709551615 - y) K := ⟨h⟩
theorem wrU64 (x : Int) : 0 ≤ IntKind.wrap .u64 x ∧ IntKind.wrap .u64 x ≤ 18446744073709551615 := by simp [IntKind.wrap, IntKind.bits, IntKind.signed]; omega
def u64R (x : Int) : Prop := 0 ≤ x ∧ x ≤ 18446744073709551615
theorem wrU16 (x : Int) : 0 ≤ IntKind.wrap .u16 x ∧ IntKind.wrap .u16 x ≤ 65535 := by simp [IntKind.wrap, IntKind.bits, IntKind.signed]; omega
theorem k_Word (l : List Int) (k : Int) (hk : 0 ≤ k) (hl : l.length ≤ 400) :
    ∃ r hp', (∃ (x k' : Int), r = .v (.int .u64 x) ∧ hp' = [.cells (tape l k')] ∧ u64R x ∧ 0 ≤ k') ∧ Con Tryz.prog 166 [.pb 0 []] [.cells (tape l k)] r hp' := by
  refine spec_of_runR ttok mixed (T0 := 4461325) (ts := [.tmp 2]) 29 rfl rfl rfl rfl (by simp) rfl ?_
  conv => whnf
  repeat' (first | ((with_reducible apply Wr.anyShl); (conv => whnf)) | ((with_reducible apply Wr.anyAdd); (conv => whnf)) | ((with_reducible apply Wr.anySub); (conv => whnf)) | ((first | ((with_reducible apply Wr.u64); focus omega) | ((with_reducible apply Need.mk); focus omega) | (refine CallN.ex (k_tape_Next l _ 65536 hk hl (by omega)) ?_; rintro _ _ ⟨x, k1, rfl, rfl, h1, h2, h3⟩) | (refine CallN.ex (k_tape_Next l _ 5 h3 hl (by omega)) ?_; rintro _ _ ⟨y, k2, rfl, rfl, g1, g2, g3⟩) | ((with_reducible apply Bif.beq) <;> intro h <;> (try simp only [lns] at h)) | (with_reducible apply Frz.l)) <;> conv => whnf) | fail)
  all_goals ((apply Ex2.mk (.v (.int .u64 _)) ([.cells (tape l _)])); (focus ((conv => whnf); repeat' (first | with_reducible apply True.intro | ((first | (with_reducible apply Same.rfl) | (with_reducible apply Frz.l)) <;> conv => whnf) | fail))); exact ⟨_, _, rfl, rfl, by first | exact wrU64 _ | (unfold u64R; omega) | (unfold u64R; rw [Int.tmod_eq_emod_of_nonneg (by omega)]; omega), by omega⟩)
theorem k_port (l : List Int) (k : Int) (hk : 0 ≤ k) (hl : l.length ≤ 400) :
    ∃ r hp', (∃ (x k' : Int), r = .v (.int .u16 x) ∧ hp' = [.cells (tape l k')] ∧ (0 ≤ x ∧ x ≤ 65535) ∧ 0 ≤ k') ∧ Con Tryz.prog 90 [.pb 0 []] [.cells (tape l k)] r hp' := by
  refine spec_of_runR ttok mixed (T0 := 17165) (ts := [.tmp 2]) 20 rfl rfl rfl rfl (by simp) rfl ?_
  conv => whnf
  repeat' (first | ((with_reducible apply Wr.anyP16); (conv => whnf)) | ((first | ((with_reducible apply Wr.u16); focus omega) | ((with_reducible apply Need.mk); focus omega) | (refine CallN.ex (k_tape_Next l _ 65536 hk hl (by omega)) ?_; rintro _ _ ⟨x, k1, rfl, rfl, h1, h2, h3⟩) | (refine CallN.ex (k_tape_Next l _ 3 h3 hl (by omega)) ?_; rintro _ _ ⟨y, k2, rfl, rfl, g1, g2, g3⟩) | ((with_reducible apply Bif.beq) <;> intro h <;> (try simp only [lns] at h)) | (with_reducible apply Frz.l)) <;> conv => whnf) | fail)
  all_goals ((apply Ex2.mk (.v (.int .u16 _)) ([.cells (tape l _)])); (focus ((conv => whnf); repeat' (first | with_reducible apply True.intro | ((first | (with_reducible apply Same.rfl) | (with_reducible apply Frz.l)) <;> conv => whnf) | fail))); exact ⟨_, _, rfl, rfl, by first | exact wrU16 _ | omega | (constructor <;> (rw [Int.tmod_eq_emod_of_nonneg (by omega)]; omega)), by omega⟩)
/-- One byte of an address is set. -/
def setIP (a : IP) (i : Nat) (x : Int) (h : 0 ≤ x ∧ x ≤ 255) : IP := ⟨a.1.set i x, by rw [List.length_set, a.2.1], fun y hy => by
  rcases List.mem_or_eq_of_mem_set hy with g | rfl
  · exact a.2.2 y g
  · exact h⟩
def grp0 : IP := ⟨[255, 2, 0, 0, 0, 0, 0, 0, 0, 0, 0, 0, 0, 0, 0, 0], by decide⟩
theorem k_Group (l : List Int) (k : Int) (hk : 0 ≤ k) (hl : l.length ≤ 400) :
    ∃ r hp', (∃ (a : IP) (k' : Int), r = ipV a ∧ hp' = [.cells (tape l k')] ∧ 0 ≤ k') ∧ Con Tryz.prog 167 [.pb 0 []] [.cells (tape l k)] r hp' := by
  refine spec_of_runR ttok mixed (T0 := 65693) (ts := [.cell 2 67]) 25 rfl rfl rfl rfl (by simp) rfl ?_
  conv => whnf
  have e0 : SV.ba 16 [255, 2, 0, 0, 0, 0, 0, 0, 0, 0, 0, 0, 0, 0, 0, 0] = ipV grp0 := rfl
  repeat' (first | ((first | ((with_reducible apply Nm.mk); focus ((try simp only [lns]); exact rfl)) | ((with_reducible apply Wr.u8); focus omega) | ((with_reducible apply Need.mk); focus omega) | (refine CallN.ex (k_tape_Bool l _ 2 hk hl (by omega)) ?_; rintro _ _ ⟨b, k1, rfl, rfl, h3⟩) | (refine CallN.ex (k_tape_Next l _ 256 h3 hl (by omega)) ?_; rintro _ _ ⟨y, k2, rfl, rfl, g1, g2, g3⟩) | ((with_reducible apply Bif.mk) <;> intro h) | (with_reducible apply Frz.l)) <;> conv => whnf) | fail)
  · refine loop_keep ttok mixed (T0 := 65693) [] (ι := {p : Nat × IP × Int // 1 ≤ p.1 ∧ p.1 ≤ 15 ∧ 0 ≤ p.2.2})
      (fun p => [(0, .pb 0 []), (2, .pb 1 []), (3, .pb 2 []), (4, int (p.1.1 : Int))]) (fun p => [.cells (tape l p.1.2.2), .cells (ipV ip0), .cells (ipV p.1.2.1)]) (fun p => p.1.1) ⟨(15, setIP grp0 1 y (by omega), k2), by show 1 ≤ 15; decide, by show 15 ≤ 15; decide, g3⟩ ?_
    conv => whnf
    repeat' (first | ((apply Same.mk rfl); (conv => whnf)) | ((with_reducible apply Frz.l) <;> conv => whnf) | fail)
    rintro ⟨⟨i, a, k3⟩, hi1, hi2, hk3⟩
    dsimp only at hi1 hi2 hk3 ⊢
    conv => whnf
    have la := a.2.1
    repeat' (first | ((first | ((with_reducible apply Nm.mk); focus ((try simp only [lns]); exact rfl)) | ((with_reducible first | apply Wr.i64 | apply Wr.u8); focus omega) | ((with_reducible apply Need.mk); focus omega) | (refine CallN.ex (k_tape_Next l _ 15 hk3 hl (by omega)) ?_; rintro _ _ ⟨z, k4, rfl, rfl, j1, j2, j3⟩) | (refine CallN.ex (k_tape_Next l _ 256 j3 hl (by omega)) ?_; rintro _ _ ⟨v, k5, rfl, rfl, q1, q2, q3⟩) | ((with_reducible apply Bif.dec) <;> intro h <;> (try simp only [lns] at h)) | (with_reducible apply Frz.l)) <;> conv => whnf) | fail)
    · (refine ⟨⟨(i - 1, setIP a i v (by omega), k5), by dsimp only; omega, by dsimp only; omega, q3⟩, ?_⟩; (try dsimp only); conv => whnf); repeat' (first | with_reducible apply True.intro | ((apply Same.mk (show SV.v (.int .i64 ((i : Int) - 1)) = int ((i - 1 : Nat) : Int) by rw [show ((i - 1 : Nat) : Int) = (i : Int) - 1 by omega]; rfl)); (conv => whnf)) | ((apply Same.mk rfl); (conv => whnf)) | ((first | ((with_reducible apply Need.mk); focus omega) | (with_reducible apply Turn.l) | (with_reducible apply Frz.l)) <;> conv => whnf) | fail)
    · (refine ⟨_, _, ⟨a, k4, rfl, rfl, j3⟩, ?_⟩; conv => whnf); repeat' (first | with_reducible apply True.intro | ((first | (with_reducible apply Same.rfl) | (with_reducible apply Frz.l)) <;> conv => whnf) | fail)
  · refine loop_keep ttok mixed (T0 := 65693) [] (ι := {p : Nat × IP × Int // 1 ≤ p.1 ∧ p.1 ≤ 15 ∧ 0 ≤ p.2.2})
      (fun p => [(0, .pb 0 []), (2, .pb 1 []), (3, .pb 2 []), (4, int (p.1.1 : Int))]) (fun p => [.cells (tape l p.1.2.2), .cells (ipV ip0), .cells (ipV p.1.2.1)]) (fun p => p.1.1) ⟨(15, grp0, k1), by show 1 ≤ 15; decide, by show 15 ≤ 15; decide, h3⟩ ?_
    conv => whnf
    repeat' (first | ((apply Same.mk rfl); (conv => whnf)) | ((with_reducible apply Frz.l) <;> conv => whnf) | fail)
    rintro ⟨⟨i, a, k3⟩, hi1, hi2, hk3⟩
    dsimp only at hi1 hi2 hk3 ⊢
    conv => whnf
    have la := a.2.1
    repeat' (first | ((first | ((with_reducible apply Nm.mk); focus ((try simp only [lns]); exact rfl)) | ((with_reducible first | apply Wr.i64 | apply Wr.u8); focus omega) | ((with_reducible apply Need.mk); focus omega) | (refine CallN.ex (k_tape_Next l _ 15 hk3 hl (by omega)) ?_; rintro _ _ ⟨z, k4, rfl, rfl, j1, j2, j3⟩) | (refine CallN.ex (k_tape_Next l _ 256 j3 hl (by omega)) ?_; rintro _ _ ⟨v, k5, rfl, rfl, q1, q2, q3⟩) | ((with_reducible apply Bif.dec) <;> intro h <;> (try simp only [lns] at h)) | (with_reducible apply Frz.l)) <;> conv => whnf) | fail)
    · (refine ⟨⟨(i - 1, setIP a i v (by omega), k5), by dsimp only; omega, by dsimp only; omega, q3⟩, ?_⟩; (try dsimp only); conv => whnf); repeat' (first | with_reducible apply True.intro | ((apply Same.mk (show SV.v (.int .i64 ((i : Int) - 1)) = int ((i - 1 : Nat) : Int) by rw [show ((i - 1 : Nat) : Int) = (i : Int) - 1 by omega]; rfl)); (conv => whnf)) | ((apply Same.mk rfl); (conv => whnf)) | ((first | ((with_reducible apply Need.mk); focus omega) | (with_reducible apply Turn.l) | (with_reducible apply Frz.l)) <;> conv => whnf) | fail)
    · (refine ⟨_, _, ⟨a, k4, rfl, rfl, j3⟩, ?_⟩; conv => whnf); repeat' (first | with_reducible apply True.intro | ((first | (with_reducible apply Same.rfl) | (with_reducible apply Frz.l)) <;> conv => whnf) | fail)
end Go.Fw

/- Made addresses and contexts. -/
namespace Go.Fw
open Go.Proofs
set_option maxHeartbeats 8000000
set_option maxRecDepth 8000
def preY : List Int := [2306139568115548160, 2306139568115613696, 18338657682652659712, 18230571291595767808, 0, 2306139568115613697]
theorem preY_get {i : Nat} (h : i < 6) : (lst u64S preY)[i]? = some (.v (.int .u64 (gt preY i))) := by
  match i, h with
  | 0, _ | 1, _ | 2, _ | 3, _ | 4, _ | 5, _ => rfl
theorem k_mIP (l : List Int) (k : Int) (e : Nat) (he : e ≤ 18446744073709551615) (hk : 0 ≤ k) (hl : l.length ≤ 400) :
    ∃ r hp', (∃ (a : IP) (k' : Int), r = ipV a ∧ hp' = [.cells (tape l k')] ∧ 0 ≤ k') ∧ Con Tryz.prog 89 [.pb 0 [], lnkV e] [.cells (tape l k)] r hp' := by
  have ci := k_rIID e he
  refine spec_of_runR ttok mixed (T0 := 155761246331) (ts := [.cell 4 67]) 42 rfl rfl rfl rfl (by simp) rfl ?_
  conv => whnf
  repeat' (first | ((apply Elem.mk _ (show (lst u64S preY)[x.toNat]? = _ from preY_get (by omega))); (conv => whnf)) | ((first | ((with_reducible apply Nm.mk); focus ((try simp only [lns, beN_len, ipB_len]); exact rfl)) | ((with_reducible apply Wr.u64); focus omega) | ((with_reducible apply Need.mk); focus omega) | (apply CallN.mk (ci)) | (refine CallN.ex (k_tape_Next l _ 6 hk hl (by omega)) ?_; rintro _ _ ⟨x, k1, rfl, rfl, h1, h2, h3⟩) | (refine CallN.ex (k_tape_Next l _ 6 h3 hl (by omega)) ?_; rintro _ _ ⟨y, k2, rfl, rfl, g1, g2, g3⟩) | (refine CallN.ex (k_tape_Next l _ 65536 g3 hl (by omega)) ?_; rintro _ _ ⟨z, k3, rfl, rfl, j1, j2, j3⟩) | (refine CallN.ex (k_Word l _ g3 hl) ?_; rintro _ _ ⟨z, k3, rfl, rfl, j1, j3⟩) | (refine CallN.ex (k_Group l _ g3 hl) ?_; rintro _ _ ⟨z, k3, rfl, rfl, j3⟩) | (refine CallN.ex (k_tape_Bool l _ 2 g3 hl (by omega)) ?_; rintro _ _ ⟨z, k3, rfl, rfl, j3⟩) | (apply CallN.mk (k_OfX _ _)) | ((with_reducible apply Bif.beq) <;> intro h <;> (try simp only [lns, beN_len, ipB_len] at h)) | ((with_reducible apply Bif.mk) <;> intro h) | (with_reducible apply Frz.l)) <;> conv => whnf) | fail)
  all_goals first | ((apply Ex2.mk (ipV _) ([.cells (tape l _)])); (focus ((conv => whnf); repeat' (first | with_reducible apply True.intro | ((first | (with_reducible apply Same.rfl) | (with_reducible apply Frz.l)) <;> conv => whnf) | fail))); exact ⟨_, _, rfl, rfl, by omega⟩) | ((apply Ex2.mk (ipV ip0) ([.cells (tape l _)])); (focus ((conv => whnf); repeat' (first | with_reducible apply True.intro | ((first | (with_reducible apply Same.rfl) | (apply Same.rfl) | (with_reducible apply Frz.l)) <;> conv => whnf) | fail))); exact ⟨_, _, rfl, rfl, by omega⟩)
theorem prevC_app {l : List Cxt} {c : Cxt} {i : Nat} (h : i ≤ l.length) : prevC (l ++ [c]) i = prevC l i := by
  cases i with
  | zero => rfl
  | succ i => show (gt (l ++ [c]) i).id = (gt l i).id; rw [gt_app, if_pos (by omega)]
theorem VCx.snoc {l : List Cxt} {c : Cxt} (h : VCx l) (h1 : prevC l l.length < c.id) (h2 : c.id < 16) (h3 : vPfx c.pfx = true) (h4 : isTm c.til) : VCx (l ++ [c]) := by
  have key : ∀ i, i < (l ++ [c]).length → (i < l.length ∧ gt (l ++ [c]) i = gt l i) ∨ (i = l.length ∧ gt (l ++ [c]) i = c) := fun i hi => by
    rw [List.length_append] at hi
    simp at hi
    rw [gt_app]
    split
    · exact .inl ⟨by assumption, rfl⟩
    · have e : i = l.length := by omega
      subst e
      rw [Nat.sub_self]; exact .inr ⟨rfl, rfl⟩
  refine ⟨fun i hi => ?_, fun i hi => ?_, fun i hi => ?_⟩
  · rcases key i hi with ⟨g, e⟩ | ⟨g, e⟩
    · rw [e, prevC_app (by omega)]; exact h.ids i g
    · rw [e, prevC_app (by omega), g]; exact ⟨h1, h2⟩
  · rcases key i hi with ⟨g, e⟩ | ⟨g, e⟩
    · rw [e]; exact h.pfx i g
    · rw [e]; exact h3
  · rcases key i hi with ⟨g, e⟩ | ⟨g, e⟩
    · rw [e]; exact h.til i g
    · rw [e]; exact h4
/-- Contexts made so far. -/
structure MkC where
  i : Nat
  L : List Cxt
  k : Int
  hi : i ≤ 16
  hL : VCx L
  hp : prevC L L.length < i
  hn : L.length ≤ i
  hk : 0 ≤ k
def MkC.more (p : MkC) (h : p.i < 16) (c : Cxt) (h1 : c.id = p.i) (h3 : vPfx c.pfx = true) (h4 : isTm c.til) (k : Int) (hk : 0 ≤ k) : MkC :=
  ⟨p.i + 1, p.L ++ [c], k, h, p.hL.snoc (by rw [h1]; exact p.hp) (by rw [h1]; omega) h3 h4, by
    rw [List.length_append]
    show (gt (p.L ++ [c]) p.L.length).id < _
    rw [gt_app, if_neg (by omega), Nat.sub_self]
    show c.id < _
    rw [h1]; omega, by have := p.hn; simp; omega, hk⟩
theorem k_mCxtsO (l : List Int) (k : Int) (hk : 0 ≤ k) (hl : l.length ≤ 400) :
    ∃ r hp', (∃ (L : List Cxt) (k' : Int), r = .ov 20 1 0 L.length ∧ hp' = [.cells (tape l k'), .arr none 20 (lst cxtV L)] ∧ VCx L ∧ L.length ≤ 16 ∧ 0 ≤ k') ∧ Con Tryz.prog 39 [.pb 0 []] [.cells (tape l k)] r hp' := by
  refine spec_of_runR ttok mixed (T0 := 1117) (ts := [.tmp 2]) 24 rfl rfl rfl rfl (by simp) rfl ?_
  conv => whnf
  repeat' (first | ((with_reducible apply Frz.l) <;> conv => whnf) | fail)
  refine LoopN.adopt 3 20 rfl (by simp) ?_
  refine loop_keep ttok mixed (T0 := 1117) [] (ι := MkC)
    (fun p => [(0, .pb 0 []), (3, .ov 20 1 0 p.L.length), (4, int (p.i : Int))]) (fun p => [.cells (tape l p.k), .arr none 20 (lst cxtV p.L)]) (fun p => 16 - p.i) ⟨0, [], k, by decide, .nil, by decide, by decide, hk⟩ ?_
  conv => whnf
  repeat' (first | ((apply Same.mk rfl); (conv => whnf)) | ((with_reducible apply Frz.l) <;> conv => whnf) | fail)
  rintro ⟨i, L, k1, hi, hL, hp, hn, hk1⟩
  dsimp only
  conv => whnf
  by_cases h16 : i < 16
  · repeat' (first | ((first | ((with_reducible apply Nm.mk); focus ((try simp only [lns, beN_len, ipB_len]); exact rfl)) | ((with_reducible apply Wr.i64); focus omega) | ((with_reducible apply Need.mk); focus first | (simp only [lns, beN_len, ipB_len]; omega) | (unfold roomOK; simp only [lns, beN_len, ipB_len]; omega)) | (refine CallN.ex (k_tape_Bool l _ 5 hk1 hl (by omega)) ?_; rintro _ _ ⟨b, k2, rfl, rfl, h2⟩) | (refine CallN.ex (k_PrefixV l _ h2 hl) ?_; rintro _ _ ⟨P, k3, rfl, rfl, hP, h3⟩) | (refine CallN.ex (k_tape_Next l _ 4 h3 hl (by omega)) ?_; rintro _ _ ⟨x, k4, rfl, rfl, g1, g2, g3⟩) | (refine CallN.ex (k_tape_Next l _ 50 g3 hl (by omega)) ?_; rintro _ _ ⟨y, k5, rfl, rfl, j1, j2, j3⟩) | ((with_reducible apply Bif.dec) <;> intro h <;> (try simp only [lns, beN_len, ipB_len] at h) <;> (try (exfalso; omega))) | ((with_reducible apply Bif.mk) <;> intro h) | (with_reducible apply Alt.l) | (with_reducible apply Frz.l)) <;> conv => whnf) | fail)
    · (refine ⟨MkC.more ⟨i, L, k1, hi, hL, hp, hn, hk1⟩ h16 ⟨i, P, decide (x > 0), y⟩ rfl hP (by show isTm y; unfold isTm; omega) k5 j3, ?_⟩; (try dsimp only); conv => whnf); repeat' (first | with_reducible apply True.intro | ((refine Need.mk (show 16 - (i + 1) < 16 - i by omega) ?_); (conv => whnf)) | ((apply Same.mk (show int ((i : Int) + 1) = int ((i + 1 : Nat) : Int) by rw [show ((i + 1 : Nat) : Int) = (i : Int) + 1 by omega])); (conv => whnf)) | ((apply Same.mk (show _ = lst cxtV (L ++ [(⟨(i : Int), P, decide (x > 0), y⟩ : Cxt)]) by rw [← lst_app]; rfl)); (conv => whnf)) | ((apply Same.mk (show SV.ov 20 1 0 (L.length + 1) = SV.ov 20 1 0 (L ++ [(⟨(i : Int), P, decide (x > 0), y⟩ : Cxt)]).length by rw [List.length_append]; rfl)); (conv => whnf)) | ((apply Same.mk rfl); (conv => whnf)) | ((first | (with_reducible apply Turn.l) | (with_reducible apply Frz.l)) <;> conv => whnf) | fail)
    · (refine ⟨⟨i + 1, L, k2, by omega, hL, by omega, by omega, h2⟩, ?_⟩; (try dsimp only); conv => whnf); repeat' (first | with_reducible apply True.intro | ((apply Same.mk rfl); (conv => whnf)) | ((first | ((with_reducible apply Need.mk); focus omega) | (with_reducible apply Turn.l) | (with_reducible apply Frz.l)) <;> conv => whnf) | fail)
  · repeat' (first | ((first | ((with_reducible apply Bif.dec) <;> intro h <;> (try simp only [lns, beN_len, ipB_len] at h) <;> (try (exfalso; omega))) | (with_reducible apply Frz.l)) <;> conv => whnf) | fail)
    (refine ⟨_, _, ⟨L, k1, rfl, rfl, hL, by omega, hk1⟩, ?_⟩; conv => whnf); repeat' (first | with_reducible apply True.intro | ((first | (with_reducible apply Same.rfl) | (with_reducible apply Cut.l) | (with_reducible apply Frz.l)) <;> conv => whnf) | fail)
theorem k_mCxts (l : List Int) (k : Int) (hk : 0 ≤ k) (hl : l.length ≤ 400) :
    ∃ r hp', (∃ (L : List Cxt) (k' : Int), r = cxts L ∧ hp' = [.cells (tape l k')] ∧ VCx L ∧ L.length ≤ 16 ∧ 0 ≤ k') ∧ Con Tryz.prog 39 [.pb 0 []] [.cells (tape l k)] r hp' := by
  obtain ⟨r, hp', ⟨L, k', rfl, rfl, hL, hn, hk'⟩, hc⟩ := k_mCxtsO l k hk hl
  refine ⟨_, _, ⟨L, k', rfl, rfl, hL, hn, hk'⟩, (hc.fz 1 (Nat.le_refl _) (.one (.whole (Nat.le_refl 1) rfl) (fun l h => by cases h)) rfl ?_ rfl rfl).wk (.one .tag (fun l h => by cases h))⟩
  intro k ob h1 h2
  match k, h1, h2 with
  | 1, _, h2 => cases h2; exact ⟨_, _, _, rfl⟩
end Go.Fw
