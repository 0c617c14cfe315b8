/- What the tape makes: addresses, times, bytes, fragments. -/
import Derived.Test.YteebplkhnhpiiaaRasN
namespace Go.Fw
open Go.Proofs
set_option maxHeartbeats 8000000
set_option maxRecDepth 4000
def TapeBool (l : List Int) (r : SV) (hp' : List OB) : Prop := ∃ (b : Bool) (k' : Int), r = bool b ∧ hp' = [.cells (tape l k')] ∧ 0 ≤ k'
theorem k_tape_Bool (l : List Int) (k n : Int) (hk : 0 ≤ k) (hl : l.length ≤ 400) (hn : 0 < n ∧ n < 9223372036854775808) :
    ∃ r hp', TapeBool l r hp' ∧ Con Try.prog 15 [.pb 0 [], .v (.int .i64 n)] [.cells (tape l k)] r hp' := by
  refine spec_of_runR ttok mixed (T0 := 19) (ts := [.tmp 4]) 11 rfl rfl rfl rfl (by simp) rfl ?_
  conv => whnf
  repeat' (first | ((first | ((with_reducible apply Wr.i64); focus omega) | (refine CallN.ex (k_tape_Next l _ n (by omega) hl hn) ?_; rintro _ _ ⟨x, k', rfl, rfl, h1, h2, h3⟩) | (with_reducible apply Frz.l)) <;> conv => whnf) | fail)
  all_goals ((apply Ex2.mk (bool _) ([.cells (tape l _)])); (focus ((conv => whnf); repeat' (first | with_reducible apply True.intro | ((first | (with_reducible apply Same.rfl) | (apply Same.bool; focus (with_reducible rfl)) | (with_reducible apply Frz.l)) <;> conv => whnf) | fail))); exact ⟨_, _, rfl, rfl, by omega⟩)
theorem k_Device (l : List Int) (k : Int) (hk : 0 ≤ k) (hl : l.length ≤ 400) :
    ∃ r hp', (∃ (a : Adr) (k' : Int), r = adrV a ∧ hp' = [.cells (tape l k')] ∧ someA a = true ∧ 0 ≤ k') ∧ Con Try.prog 18 [.pb 0 []] [.cells (tape l k)] r hp' := by
  refine spec_of_runR ttok mixed (T0 := 141) (ts := [.cell 2 28]) 15 rfl rfl rfl rfl (by simp) rfl ?_
  conv => whnf
  repeat' (first | ((first | ((with_reducible first | apply Wr.u16 | apply Wr.u64); focus omega) | (refine CallN.ex (k_tape_Next l _ _ (by omega) hl (by omega)) ?_; rintro _ _ ⟨x, k', rfl, rfl, h1, h2, h3⟩) | (refine CallN.ex (k_tape_Bool l _ _ (by omega) hl (by omega)) ?_; rintro _ _ ⟨b, k', rfl, rfl, h3⟩) | ((with_reducible apply Bif.mk) <;> intro h) | (with_reducible apply Frz.l)) <;> conv => whnf) | fail)
  · (apply Ex2.mk (adrV ⟨_, _, _⟩) ([.cells (tape l _)])); (focus ((conv => whnf); repeat' (first | with_reducible apply True.intro | ((first | (with_reducible apply Same.rfl) | (with_reducible apply Frz.l)) <;> conv => whnf) | fail))); exact ⟨_, _, rfl, rfl, by simp [someA, vAdr], by omega⟩
  · (apply Ex2.mk (adrV ⟨_, _, _⟩) ([.cells (tape l _)])); (focus ((conv => whnf); repeat' (first | with_reducible apply True.intro | ((first | (with_reducible apply Same.rfl) | (with_reducible apply Frz.l)) <;> conv => whnf) | fail))); exact ⟨_, _, rfl, rfl, by simp [someA, vAdr], by omega⟩
theorem k_Addr (l : List Int) (k : Int) (hk : 0 ≤ k) (hl : l.length ≤ 400) :
    ∃ r hp', (∃ (a : Adr) (k' : Int), r = adrV a ∧ hp' = [.cells (tape l k')] ∧ 0 ≤ k') ∧ Con Try.prog 14 [.pb 0 []] [.cells (tape l k)] r hp' := by
  refine spec_of_runR ttok mixed (T0 := 309) (ts := [.cell 2 28]) 13 rfl rfl rfl rfl (by simp) rfl ?_
  conv => whnf
  repeat' (first | ((first | (refine CallN.ex (k_tape_Next l _ _ (by omega) hl (by omega)) ?_; rintro _ _ ⟨x, k', rfl, rfl, h1, h2, h3⟩) | (refine CallN.ex (k_Device l _ (by omega) hl) ?_; rintro _ _ ⟨a, k', rfl, rfl, h4, h5⟩) | ((with_reducible apply Bif.beq) <;> intro h <;> (try simp only [lns] at h)) | (with_reducible apply Frz.l)) <;> conv => whnf) | fail)
  · (apply Ex2.mk (adrV ⟨_, _, _⟩) ([.cells (tape l _)])); (focus ((conv => whnf); repeat' (first | with_reducible apply True.intro | ((first | (with_reducible apply Same.rfl) | (with_reducible apply Frz.l)) <;> conv => whnf) | fail))); exact ⟨_, _, rfl, rfl, by omega⟩
  · (apply Ex2.mk (adrV ⟨_, _, _⟩) ([.cells (tape l _)])); (focus ((conv => whnf); repeat' (first | with_reducible apply True.intro | ((first | (with_reducible apply Same.rfl) | (with_reducible apply Frz.l)) <;> conv => whnf) | fail))); exact ⟨_, _, rfl, rfl, by omega⟩
  · (apply Ex2.mk (adrV _) ([.cells (tape l _)])); (focus ((conv => whnf); repeat' (first | with_reducible apply True.intro | ((first | (with_reducible apply Same.rfl) | (with_reducible apply Frz.l)) <;> conv => whnf) | fail))); exact ⟨_, _, rfl, rfl, by omega⟩
theorem Elem.i64L {rows : List SV} {i : Nat} {K : SV → Prop} (l : List Int) (h : rows = ints l) (hi : i < l.length) (k : K (int (gt l i))) : Elem rows i K := by
  subst h; exact Elem.lst hi k
theorem k_Now (l : List Int) (k : Int) (hk : 0 ≤ k) (hl : l.length ≤ 400) :
    ∃ r hp', (∃ (t k' : Int), r = int t ∧ hp' = [.cells (tape l k')] ∧ 0 ≤ k') ∧ Con Try.prog 13 [.pb 0 []] [.cells (tape l k)] r hp' := by
  refine spec_of_runR ttok mixed (T0 := 5) (ts := [.tmp 2]) 14 rfl rfl rfl rfl (by simp) rfl ?_
  conv => whnf
  repeat' (first | ((apply Elem.i64L [_, _, _, 1099511627776, 1099511627777, -1] rfl); (focus (simp; omega)); (conv => whnf)) | ((first | ((with_reducible apply Nm.mk); focus ((try simp only [lns]); exact rfl)) | ((with_reducible apply Need.mk); focus omega) | (refine CallN.ex (k_tape_Next l _ _ (by omega) hl (by omega)) ?_; rintro _ _ ⟨x, k1, rfl, rfl, h1, h2, h3⟩) | (with_reducible apply Frz.l)) <;> conv => whnf) | fail)
  (apply Ex2.mk (int _) ([.cells (tape l _)])); (focus ((conv => whnf); repeat' (first | with_reducible apply True.intro | ((first | (with_reducible apply Same.rfl) | (with_reducible apply Frz.l)) <;> conv => whnf) | fail))); exact ⟨_, _, rfl, rfl, by omega⟩
/-! ### Bytes -/
theorem Wr.any8 {x : Int} {K : Int → Prop} (h : K (IntKind.wrap .u8 x)) : Wr .u8 x K := ⟨h⟩
theorem b8_wrap (x : Int) : SV.v (.int .u8 (IntKind.wrap .u8 x)) = b8 (UInt8.ofNat (IntKind.wrap .u8 x).toNat) := by
  have h : 0 ≤ IntKind.wrap .u8 x ∧ IntKind.wrap .u8 x ≤ 255 := by simp [IntKind.wrap, IntKind.bits, IntKind.signed]; omega
  unfold b8
  congr 2
  rw [UInt8.toNat_ofNat']
  omega
theorem b8_ofInt {x : Int} (h : 0 ≤ x ∧ x ≤ 255) : SV.v (.int .u8 x) = b8 (UInt8.ofNat x.toNat) := by
  unfold b8
  congr 2
  rw [UInt8.toNat_ofNat']
  omega
theorem k_Fill0 (l : List Int) (k : Int) (n : Nat) (hk : 0 ≤ k) (hl : l.length ≤ 400) (hn : n ≤ 100000) :
    ∃ r hp', (∃ (b : List UInt8) (k' : Int), r = .ov 1 1 0 n ∧ hp' = [.cells (tape l k'), .arr (some n) 1 (lst b8 b)] ∧ b.length = n ∧ 0 ≤ k') ∧ Con Try.prog 24 [.pb 0 [], int n] [.cells (tape l k)] r hp' := by
  refine spec_of_runR ttok mixed (T0 := 4194547) (ts := [.tmp 4]) 37 rfl rfl rfl rfl (by simp) rfl ?_
  conv => whnf
  repeat' (first | ((first | (with_reducible apply Nm.rep _ (b8_zero)) | ((with_reducible apply Nm.mk); focus ((try simp only [lns]); exact rfl)) | ((with_reducible apply Wr.u8); focus omega) | ((with_reducible apply Need.mk); focus (unfold roomOK; simp only [lns]; omega)) | (refine CallN.ex (k_tape_Next l _ 256 (by omega) hl (by omega)) ?_; rintro _ _ ⟨x, k', rfl, rfl, h1, h2, h3⟩) | (with_reducible apply Frz.l)) <;> conv => whnf) | fail)
  rename_i x1 k1 a1 a2 a3 x2 k2 b1 b2 b3
  generalize hq : [x1, x2, 0, x, 7] = q
  have hq5 : q.length = 5 := by rw [← hq]; rfl
  refine loop_keep ttok mixed (T0 := 4194547) [1] (ι := {p : Nat × List UInt8 // p.1 ≤ n ∧ p.2.length = n})
    (fun p => [(5, .pb 1 []), (6, .ov 1 2 0 n), (7, int (p.1.1 : Int))]) (fun p => [.cells (tape l k'), .cells (.ba 5 q), .arr (some n) 1 (lst b8 p.1.2)]) (fun p => n - p.1.1) ⟨(0, List.replicate n 0), by simp, by simp⟩ ?_
  conv => whnf
  repeat' (first | ((apply Same.mk rfl); (conv => whnf)) | ((apply Same.mk (by rw [← hq]; rfl)); (conv => whnf)) | ((with_reducible apply Frz.l) <;> conv => whnf) | fail)
  rintro ⟨⟨i, b⟩, hi, hb⟩
  dsimp only at hi hb ⊢
  conv => whnf
  have hm : (i : Int).tmod 5 = ((i % 5 : Nat) : Int) := by rw [Int.tmod_eq_emod_of_nonneg (by omega)]; omega
  have hd : (i : Int).tdiv 5 = ((i / 5 : Nat) : Int) := by rw [Int.tdiv_eq_ediv_of_nonneg (by omega)]; omega
  by_cases hin : i < n
  · repeat' (first | ((with_reducible apply Wr.any8); (conv => whnf)) | ((first | (with_reducible apply Nm.set _ (b8_wrap _)) | ((with_reducible apply Nm.mk); focus ((try simp only [lns, hm, hd, hb]); exact rfl)) | ((with_reducible apply Wr.i64); focus omega) | ((with_reducible apply Need.mk); focus omega) | ((with_reducible apply Elem.lst); focus omega) | ((with_reducible apply Bif.dec) <;> intro h <;> (try simp only [lns, hm, hd, hb] at h) <;> (try (exfalso; omega))) | (with_reducible apply Frz.l)) <;> conv => whnf) | fail)
    (refine ⟨⟨(i + 1, b.set i (UInt8.ofNat (IntKind.wrap .u8 (q.getD (i % 5) 0 + IntKind.wrap .u8 ((i / 5 : Nat) : Int))).toNat)), by dsimp only; omega, by simpa using hb⟩, ?_⟩; (try dsimp only); conv => whnf); repeat' (first | with_reducible apply True.intro | ((first | ((with_reducible apply Need.mk); focus omega) | (with_reducible apply Same.rfl) | (apply Same.int; focus rfl) | (apply Same.rfl) | (with_reducible apply Turn.l) | (with_reducible apply Frz.l)) <;> conv => whnf) | fail)
  · repeat' (first | ((first | ((with_reducible apply Bif.dec) <;> intro h <;> (try simp only [lns] at h) <;> (try (exfalso; omega))) | (with_reducible apply Frz.l)) <;> conv => whnf) | fail)
    (refine ⟨_, _, ⟨b, k', rfl, rfl, hb, h3⟩, ?_⟩; conv => whnf); repeat' (first | with_reducible apply True.intro | ((first | (with_reducible apply Same.rfl) | (with_reducible apply Frz.l)) <;> conv => whnf) | fail)
theorem k_Fill (l : List Int) (k : Int) (n : Nat) (hk : 0 ≤ k) (hl : l.length ≤ 400) (hn : n ≤ 100000) :
    ∃ r hp', (∃ (b : List UInt8) (k' : Int), r = .fs .no 1 (lst b8 b) ∧ hp' = [.cells (tape l k')] ∧ b.length = n ∧ 0 ≤ k') ∧ Con Try.prog 24 [.pb 0 [], int n] [.cells (tape l k)] r hp' := by
  obtain ⟨r, hp', ⟨b, k', rfl, rfl, hb, hk'⟩, hc⟩ := k_Fill0 l k n hk hl hn
  subst hb
  refine ⟨_, _, ⟨b, k', rfl, rfl, rfl, hk'⟩, (hc.fz 1 (Nat.le_refl _) (.one (.wholeC (Nat.le_refl 1) rfl) (fun l h => by cases h)) rfl ?_ rfl rfl).wk (.one .tag (fun l h => by cases h))⟩
  intro k ob h1 h2
  match k, h1, h2 with
  | 1, _, h2 => cases h2; exact ⟨_, _, _, rfl⟩
/-! ### Fragments -/
def cutN (room a n : Nat) : Nat := if n - a > (if 0 < a then room - 5 else room - 4) then (if 0 < a then room - 5 else room - 4) / 8 * 8 else n - a
def spF (room : Nat) (tag : Int) (b : List UInt8) : Nat → Nat → List Frg
  | 0, _ => []
  | k + 1, a => if a < b.length then ⟨b.length, tag, a, (b.drop a).take (cutN room a b.length)⟩ :: spF room tag b k (a + cutN room a b.length) else []
theorem cutN_le {room a n : Nat} (h : a < n) (hr : 13 ≤ room) : 1 ≤ cutN room a n ∧ a + cutN room a n ≤ n := by
  unfold cutN
  split <;> split <;> omega
structure SpI (room : Nat) (tag : Int) (b : List UInt8) where
  a : Nat
  o : List Frg
  k : Nat
  ha : a ≤ b.length
  hk : b.length - a ≤ k
  ho : o.length ≤ a
  e : o ++ spF room tag b k a = spF room tag b b.length 0
theorem k_rSplit (b : List UInt8) (tag : Int) (room : Nat) (t : Tg) (hb : 1 ≤ b.length ∧ b.length ≤ 2047) (hr : 13 ≤ room ∧ room ≤ 1000) :
    Con Try.prog 29 [.fs t 1 (lst b8 b), .v (.int .u16 tag), int room] [] (.tup [.ov 4 0 0 (spF room tag b b.length 0).length, int 0]) [.arr none 4 (lst frgV (spF room tag b b.length 0))] := by
  refine spec_of_run ttok mixed (T0 := 275450957767) (ts := [.tmp 6, .tmp 7]) 62 rfl rfl rfl rfl (by simp) rfl ?_
  conv => whnf
  repeat' (first | ((first | ((with_reducible apply Nm.mk); focus ((try simp only [lns]); exact rfl)) | (with_reducible apply Bif.F) | ((with_reducible apply Bif.dec) <;> intro h <;> (try simp only [lns] at h) <;> (try (exfalso; omega))) | (with_reducible apply Frz.l)) <;> conv => whnf) | fail)
  refine LoopN.adopt 8 4 rfl (by simp) ?_
  refine loop_keep ttok mixed (T0 := 275450957767) [0, 1, 2] (ι := SpI room tag b)
    (fun p => [(8, .ov 4 0 0 p.o.length), (9, int (p.a : Int))]) (fun p => [.arr none 4 (lst frgV p.o)]) (fun p => b.length - p.a) ⟨0, [], b.length, by omega, by omega, by simp, rfl⟩ ?_
  conv => whnf
  repeat' (first | ((first | (with_reducible apply Same.rfl) | (apply Same.int; focus rfl) | (apply Same.ov; (focus rfl); focus rfl) | (apply Same.rfl) | (with_reducible apply Frz.l)) <;> conv => whnf) | fail)
  rintro ⟨a, o, k, ha, hk, ho, he⟩
  dsimp only
  conv => whnf
  by_cases hab : a < b.length
  · have hc := cutN_le hab hr.1
    rcases k with _ | k
    · omega
    rw [spF, if_pos hab] at he
    have hcut : cutN room a b.length = if b.length - a > (if 0 < a then room - 5 else room - 4) then (if 0 < a then room - 5 else room - 4) / 8 * 8 else b.length - a := rfl
    generalize cutN room a b.length = c at *
    have e4 : ((room : Int) - 4).tdiv 8 = (((room - 4) / 8 : Nat) : Int) := by rw [Int.tdiv_eq_ediv_of_nonneg (by omega)]; omega
    have e5 : ((room : Int) - 5).tdiv 8 = (((room - 5) / 8 : Nat) : Int) := by rw [Int.tdiv_eq_ediv_of_nonneg (by omega)]; omega
    have hmin : min c (b.length - a) = c := by omega
    have e3 : lst frgV o ++ [SV.agg [natLen b.length, .v (.int .u16 tag), int a, .fs ⟨none, false⟩ 1 (List.take c ([] ++ lst b8 (List.take c (List.drop a b))))]] = lst frgV (o ++ [⟨b.length, tag, a, (b.drop a).take c⟩]) := by
      rw [List.nil_append, lst_take, List.take_take, Nat.min_self, ← lst_snoc]; rfl
    have hk2 : b.length - (a + c) ≤ k := by omega
    have ho2 : (o ++ [(⟨b.length, tag, a, (b.drop a).take c⟩ : Frg)]).length ≤ a + c := by rw [List.length_append, List.length_singleton]; omega
    have he2 : (o ++ [(⟨b.length, tag, a, (b.drop a).take c⟩ : Frg)]) ++ spF room tag b k (a + c) = spF room tag b b.length 0 := by rw [List.append_assoc]; exact he
    by_cases h0 : 0 < a
    · simp only [if_pos h0] at hcut
      by_cases hm : b.length - a > room - 5
      · rw [if_pos hm] at hcut
        have ec : ((a : Int) + (((room - 5) / 8 : Nat) : Int) * 8).toNat - a = c := by omega
        repeat' (first | ((first | ((with_reducible apply Nm.mk); focus ((try simp only [lns, e4, e5, ec, hmin]); exact rfl)) | ((with_reducible apply Wr.i64); focus omega) | ((with_reducible apply Need.mk); focus first | omega | (simp only [lns, e4, e5, ec, hmin]; omega) | (unfold roomOK; simp only [lns, e4, e5, ec, hmin]; omega)) | ((with_reducible apply Bif.dec) <;> intro h <;> (try simp only [lns, e4, e5, ec, hmin] at h) <;> (try (exfalso; omega))) | (with_reducible apply Alt.l) | (with_reducible apply Frz.l)) <;> conv => whnf) | fail)
        (refine ⟨⟨a + c, _, k, by omega, hk2, ho2, he2⟩, ?_⟩; (try dsimp only); conv => whnf); repeat' (first | with_reducible apply True.intro | ((apply Same.mk e3); (conv => whnf)) | ((first | ((with_reducible apply Need.mk); focus omega) | (with_reducible apply Same.rfl) | (apply Same.int; focus omega) | (apply Same.ov; (focus rfl); focus (simp only [lns]; first | done | omega)) | (with_reducible apply Turn.l) | (with_reducible apply Frz.l)) <;> conv => whnf) | fail)
      · rw [if_neg hm] at hcut
        have ec : ((a : Int) + ((b.length : Int) - (a : Int))).toNat - a = c := by omega
        repeat' (first | ((first | ((with_reducible apply Nm.mk); focus ((try simp only [lns, e4, e5, ec, hmin]); exact rfl)) | ((with_reducible apply Wr.i64); focus omega) | ((with_reducible apply Need.mk); focus first | (simp only [lns, e4, e5, ec, hmin]; omega) | (unfold roomOK; simp only [lns, e4, e5, ec, hmin]; omega)) | ((with_reducible apply Bif.dec) <;> intro h <;> (try simp only [lns, e4, e5, ec, hmin] at h) <;> (try (exfalso; omega))) | (with_reducible apply Alt.l) | (with_reducible apply Frz.l)) <;> conv => whnf) | fail)
        (refine ⟨⟨a + c, _, k, by omega, hk2, ho2, he2⟩, ?_⟩; (try dsimp only); conv => whnf); repeat' (first | with_reducible apply True.intro | ((apply Same.mk e3); (conv => whnf)) | ((first | ((with_reducible apply Need.mk); focus omega) | (with_reducible apply Same.rfl) | (apply Same.int; focus omega) | (apply Same.ov; (focus rfl); focus (simp only [lns]; first | done | omega)) | (with_reducible apply Turn.l) | (with_reducible apply Frz.l)) <;> conv => whnf) | fail)
    · simp only [if_neg h0] at hcut
      by_cases hm : b.length - a > room - 4
      · rw [if_pos hm] at hcut
        have ec : ((a : Int) + (((room - 4) / 8 : Nat) : Int) * 8).toNat - a = c := by omega
        repeat' (first | ((first | ((with_reducible apply Nm.mk); focus ((try simp only [lns, e4, e5, ec, hmin]); exact rfl)) | ((with_reducible apply Wr.i64); focus omega) | ((with_reducible apply Need.mk); focus first | omega | (simp only [lns, e4, e5, ec, hmin]; omega) | (unfold roomOK; simp only [lns, e4, e5, ec, hmin]; omega)) | ((with_reducible apply Bif.dec) <;> intro h <;> (try simp only [lns, e4, e5, ec, hmin] at h) <;> (try (exfalso; omega))) | (with_reducible apply Alt.l) | (with_reducible apply Frz.l)) <;> conv => whnf) | fail)
        (refine ⟨⟨a + c, _, k, by omega, hk2, ho2, he2⟩, ?_⟩; (try dsimp only); conv => whnf); repeat' (first | with_reducible apply True.intro | ((apply Same.mk e3); (conv => whnf)) | ((first | ((with_reducible apply Need.mk); focus omega) | (with_reducible apply Same.rfl) | (apply Same.int; focus omega) | (apply Same.ov; (focus rfl); focus (simp only [lns]; first | done | omega)) | (with_reducible apply Turn.l) | (with_reducible apply Frz.l)) <;> conv => whnf) | fail)
      · rw [if_neg hm] at hcut
        have ec : ((a : Int) + ((b.length : Int) - (a : Int))).toNat - a = c := by omega
        repeat' (first | ((first | ((with_reducible apply Nm.mk); focus ((try simp only [lns, e4, e5, ec, hmin]); exact rfl)) | ((with_reducible apply Wr.i64); focus omega) | ((with_reducible apply Need.mk); focus first | (simp only [lns, e4, e5, ec, hmin]; omega) | (unfold roomOK; simp only [lns, e4, e5, ec, hmin]; omega)) | ((with_reducible apply Bif.dec) <;> intro h <;> (try simp only [lns, e4, e5, ec, hmin] at h) <;> (try (exfalso; omega))) | (with_reducible apply Alt.l) | (with_reducible apply Frz.l)) <;> conv => whnf) | fail)
        (refine ⟨⟨a + c, _, k, by omega, hk2, ho2, he2⟩, ?_⟩; (try dsimp only); conv => whnf); repeat' (first | with_reducible apply True.intro | ((apply Same.mk e3); (conv => whnf)) | ((first | ((with_reducible apply Need.mk); focus omega) | (with_reducible apply Same.rfl) | (apply Same.int; focus omega) | (apply Same.ov; (focus rfl); focus (simp only [lns]; first | done | omega)) | (with_reducible apply Turn.l) | (with_reducible apply Frz.l)) <;> conv => whnf) | fail)
  · have hfin : o = spF room tag b b.length 0 := by
      rw [← he]
      cases k with
      | zero => simp [spF]
      | succ k => rw [spF, if_neg hab, List.append_nil]
    rw [← hfin]
    repeat' (first | with_reducible apply True.intro | ((first | ((with_reducible apply Nm.mk); focus ((try simp only [lns]); exact rfl)) | ((with_reducible apply Bif.dec) <;> intro h <;> (try simp only [lns] at h) <;> (try (exfalso; omega))) | (with_reducible apply Same.rfl) | (apply Same.int; focus rfl) | (with_reducible apply Cut.l) | (with_reducible apply Frz.l)) <;> conv => whnf) | fail)
/-- Fragments that follow each other, of one datagram. -/
def Chn (b : List UInt8) (tag : Int) : Nat → List Frg → Prop
  | a, [] => a = b.length
  | a, f :: r => f.size = b.length ∧ f.tag = tag ∧ f.off = a ∧ okF f = true ∧ f.data = (b.drop a).take f.data.length ∧ Chn b tag (a + f.data.length) r
theorem spF_chn {room : Nat} {tag : Int} {b : List UInt8} (hb : 1 ≤ b.length ∧ b.length ≤ 2047) (hr : 13 ≤ room) : ∀ (k a : Nat), a ≤ b.length → b.length - a ≤ k → a % 8 = 0 ∨ a = b.length → Chn b tag a (spF room tag b k a)
  | 0, a, h1, h2, _ => by rw [spF]; show a = b.length; omega
  | k + 1, a, h1, h2, h3 => by
    rw [spF]
    by_cases hab : a < b.length
    · rw [if_pos hab]
      have hc := cutN_le hab hr
      have h8 : cutN room a b.length % 8 = 0 ∨ a + cutN room a b.length = b.length := by
        unfold cutN
        split <;> split <;> omega
      have hl : ((b.drop a).take (cutN room a b.length)).length = cutN room a b.length := by simp; omega
      have hm : ((a : Nat) : Int).tmod 8 = 0 := by rw [Int.tmod_eq_emod_of_nonneg (by omega)]; omega
      refine ⟨rfl, rfl, rfl, okF_iff.2 ⟨?_, ?_, ?_, hm, ?_, ?_, ?_⟩, ?_, ?_⟩
      · dsimp only; omega
      · dsimp only; omega
      · dsimp only; omega
      · rw [hl]; omega
      · dsimp only; rw [hl]; omega
      · dsimp only
        rw [hl]
        rcases h8 with h8 | h8
        · right; rw [Int.tmod_eq_emod_of_nonneg (by omega)]; omega
        · left; omega
      · dsimp only; rw [hl]
      · dsimp only
        rw [hl]
        refine spF_chn hb hr k _ (by omega) (by omega) ?_
        rcases h8 with h8 | h8
        · left; omega
        · right; exact h8
    · rw [if_neg hab]; show a = b.length; omega
theorem chn_ok {b : List UInt8} {tag : Int} : ∀ {l : List Frg} {a : Nat}, Chn b tag a l → ∀ f ∈ l, okF f = true
  | [], _, _, f, hf => by cases hf
  | g :: r, a, h, f, hf => by
    obtain ⟨_, _, _, h4, _, h6⟩ := h
    rcases List.mem_cons.1 hf with rfl | hf
    · exact h4
    · exact chn_ok h6 f hf
theorem spF_len {room : Nat} {tag : Int} {b : List UInt8} (hr : 13 ≤ room) : ∀ (k a : Nat), (spF room tag b k a).length ≤ b.length - a
  | 0, a => by simp [spF]
  | k + 1, a => by
    rw [spF]
    by_cases hab : a < b.length
    · rw [if_pos hab, List.length_cons]
      have := cutN_le hab hr
      have := spF_len (room := room) (tag := tag) (b := b) hr k (a + cutN room a b.length)
      omega
    · rw [if_neg hab]; simp
end Go.Fw
