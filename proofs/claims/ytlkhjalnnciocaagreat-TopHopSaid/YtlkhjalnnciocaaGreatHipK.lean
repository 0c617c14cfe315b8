/- IPHC: a multicast address, read. -/
import Derived.Test.YtlkhjalnnciocaaGreatHipG

namespace Go.Fw
open Go.Proofs
set_option maxHeartbeats 8000000
set_option maxRecDepth 8000
theorem bA_gt {a : IP} {i : Nat} (h : i < 16) : ((bA a i).toNat : Int) = gt a.1 i := by
  have := bA_eq (a := a) h
  simp only [b8, SV.v.injEq, Value.int.injEq, true_and] at this
  exact this.symm
theorem zeroR_at {a : IP} {i j m : Nat} (h : zeroR a i j = true) (h1 : i ≤ m) (h2 : m < j) : gt a.1 m = 0 := by
  have := of_decide_eq_true h (m - i) (by omega)
  rwa [show i + (m - i) = m by omega] at this
/-- The bytes of a multicast address, by its form. -/
theorem grp_lst {a : IP} (L : List Int) (hL : L.length = 16) (h : ∀ i, i < 16 → gt a.1 i = gt L i) : a.1 = L := by
  apply ext_gt (by rw [hL, a.2.1])
  intro i hi
  exact h i (by have := a.2.1; omega)
theorem fin16 {P : Nat → Prop} (h : P 0 ∧ P 1 ∧ P 2 ∧ P 3 ∧ P 4 ∧ P 5 ∧ P 6 ∧ P 7 ∧ P 8 ∧ P 9 ∧ P 10 ∧ P 11 ∧ P 12 ∧ P 13 ∧ P 14 ∧ P 15) : ∀ i, i < 16 → P i := by
  intro i hi
  obtain ⟨a0, a1, a2, a3, a4, a5, a6, a7, a8, a9, a10, a11, a12, a13, a14, a15⟩ := h
  match i, hi with
  | 0, _ => exact a0
  | 1, _ => exact a1
  | 2, _ => exact a2
  | 3, _ => exact a3
  | 4, _ => exact a4
  | 5, _ => exact a5
  | 6, _ => exact a6
  | 7, _ => exact a7
  | 8, _ => exact a8
  | 9, _ => exact a9
  | 10, _ => exact a10
  | 11, _ => exact a11
  | 12, _ => exact a12
  | 13, _ => exact a13
  | 14, _ => exact a14
  | 15, _ => exact a15
  | k + 16, h => omega
theorem grp3 {a : IP} (h0 : gt a.1 0 = 255) (h1 : gt a.1 1 = 2) (hz : zeroR a 2 15 = true) : a.1 = [255, 2, 0, 0, 0, 0, 0, 0, 0, 0, 0, 0, 0, 0, 0, gt a.1 15] :=
  grp_lst _ rfl (fin16 ⟨h0, h1, zeroR_at hz (by decide) (by decide), zeroR_at hz (by decide) (by decide), zeroR_at hz (by decide) (by decide), zeroR_at hz (by decide) (by decide), zeroR_at hz (by decide) (by decide), zeroR_at hz (by decide) (by decide), zeroR_at hz (by decide) (by decide), zeroR_at hz (by decide) (by decide), zeroR_at hz (by decide) (by decide), zeroR_at hz (by decide) (by decide), zeroR_at hz (by decide) (by decide), zeroR_at hz (by decide) (by decide), zeroR_at hz (by decide) (by decide), rfl⟩)
theorem wB (v m : Nat) : IntKind.wrap .u8 ((v : Int).fdiv (2 ^ m)) = ((v / 2 ^ m % 256 : Nat) : Int) := by
  rw [Int.fdiv_eq_ediv_of_nonneg _ (Int.le_of_lt (Int.pow_pos (by decide))), wrap8]
  norm_cast
theorem k_rGrp3 (a : IP) (b : List UInt8) (at_ : Nat) (X : List UInt8) (h0 : gt a.1 0 = 255) (h1 : gt a.1 1 = 2) (hz : zeroR a 2 15 = true) (hd : b.drop at_ = [bA a 15] ++ X) (hb : b.length ≤ 10000) :
    Con Tryz.prog 163 [.pb 0 [], int 3] [.cells (rdV b at_)] (.tup [ipV a, int 0]) [.cells (rdV b (at_ + 1))] := by
  have hl := congrArg List.length hd
  rw [List.length_drop] at hl
  simp at hl
  have c := k_rnum b at_ 1 (by decide) hb (by omega)
  rw [hd, List.take_left' (by rfl), beV1] at c
  have hx := (bA a 15).toNat_lt
  have e15 := bA_gt (a := a) (i := 15) (by decide)
  have hg : SV.ba 16 [255, 2, 0, 0, 0, 0, 0, 0, 0, 0, 0, 0, 0, 0, 0, ((bA a 15).toNat : Int)] = ipV a := by rw [e15]; exact congrArg (SV.ba 16) (grp3 h0 h1 hz).symm
  generalize (bA a 15).toNat = x at *
  clear e15 hd
  refine spec_of_run ttok mixed (T0 := 504475726167195635) (ts := [.cell 4 67, .tmp 5]) 70 rfl rfl rfl rfl (by simp) rfl ?_
  conv => whnf
  repeat' (first | ((apply Elem.mk _ rfl); (conv => whnf)) | ((apply Need.mk (by decide)); (conv => whnf)) | ((first | ((with_reducible apply Nm.mk); focus ((try simp only [lns, beN_len, ipB_len]); exact rfl)) | (apply CallN.mk (c)) | ((with_reducible first | apply Bif.dec | apply Bif.beq | apply Bif.bne) <;> intro h <;> (try simp only [lns, beN_len, ipB_len] at h) <;> (try (exfalso; omega))) | (with_reducible apply Frz.l)) <;> conv => whnf) | fail)
  refine LoopN.unr 2 ttok mixed (T0 := 504475726167195635) ?_
  conv => whnf
  have w0 : IntKind.wrap .u8 ((x : Int).fdiv (2 ^ (0 : Nat))) = (x : Int) := by rw [wB]; show ((x / 1 % 256 : Nat) : Int) = _; omega
  repeat' (first | with_reducible apply True.intro | ((apply Wr.eq w0); (conv => whnf)) | ((apply Same.mk hg); (conv => whnf)) | ((apply Same.mk rfl); (conv => whnf)) | ((first | ((with_reducible apply Nm.mk); focus ((try simp only [lns, beN_len, ipB_len]); exact rfl)) | ((with_reducible apply Wr.i64); focus omega) | ((with_reducible apply Need.mk); focus omega) | ((with_reducible apply Bif.dec) <;> intro h <;> (try simp only [lns, beN_len, ipB_len] at h) <;> (try (exfalso; omega))) | (with_reducible apply Frz.l)) <;> conv => whnf) | fail)
theorem grp2 {a : IP} (h0 : gt a.1 0 = 255) (hz : zeroR a 2 13 = true) : a.1 = [255, gt a.1 1, 0, 0, 0, 0, 0, 0, 0, 0, 0, 0, 0, gt a.1 13, gt a.1 14, gt a.1 15] :=
  grp_lst _ rfl (fin16 ⟨h0, rfl, zeroR_at hz (by decide) (by decide), zeroR_at hz (by decide) (by decide), zeroR_at hz (by decide) (by decide), zeroR_at hz (by decide) (by decide), zeroR_at hz (by decide) (by decide), zeroR_at hz (by decide) (by decide), zeroR_at hz (by decide) (by decide), zeroR_at hz (by decide) (by decide), zeroR_at hz (by decide) (by decide), zeroR_at hz (by decide) (by decide), zeroR_at hz (by decide) (by decide), rfl, rfl, rfl⟩)
theorem grp1 {a : IP} (h0 : gt a.1 0 = 255) (hz : zeroR a 2 11 = true) : a.1 = [255, gt a.1 1, 0, 0, 0, 0, 0, 0, 0, 0, 0, gt a.1 11, gt a.1 12, gt a.1 13, gt a.1 14, gt a.1 15] :=
  grp_lst _ rfl (fin16 ⟨h0, rfl, zeroR_at hz (by decide) (by decide), zeroR_at hz (by decide) (by decide), zeroR_at hz (by decide) (by decide), zeroR_at hz (by decide) (by decide), zeroR_at hz (by decide) (by decide), zeroR_at hz (by decide) (by decide), zeroR_at hz (by decide) (by decide), zeroR_at hz (by decide) (by decide), zeroR_at hz (by decide) (by decide), rfl, rfl, rfl, rfl, rfl⟩)
theorem k_rGrp2 (a : IP) (b : List UInt8) (at_ : Nat) (X : List UInt8) (h0 : gt a.1 0 = 255) (hz : zeroR a 2 13 = true) (hd : b.drop at_ = [bA a 1, bA a 13, bA a 14, bA a 15] ++ X) (hb : b.length ≤ 10000) :
    Con Tryz.prog 163 [.pb 0 [], int 2] [.cells (rdV b at_)] (.tup [ipV a, int 0]) [.cells (rdV b (at_ + 4))] := by
  have hl := congrArg List.length hd
  rw [List.length_drop] at hl
  simp at hl
  have c := k_rnum b at_ 4 (by decide) hb (by omega)
  rw [hd, List.take_left' (by rfl)] at c
  have hv : beV [bA a 1, bA a 13, bA a 14, bA a 15] = (((bA a 1).toNat * 256 + (bA a 13).toNat) * 256 + (bA a 14).toNat) * 256 + (bA a 15).toNat := by simp [beV]
  rw [hv] at c
  have x1 := (bA a 1).toNat_lt
  have x13 := (bA a 13).toNat_lt
  have x14 := (bA a 14).toNat_lt
  have x15 := (bA a 15).toNat_lt
  have hg : SV.ba 16 [255, ((bA a 1).toNat : Int), 0, 0, 0, 0, 0, 0, 0, 0, 0, 0, 0, ((bA a 13).toNat : Int), ((bA a 14).toNat : Int), ((bA a 15).toNat : Int)] = ipV a := by
    rw [bA_gt (by decide), bA_gt (by decide), bA_gt (by decide), bA_gt (by decide)]; exact congrArg (SV.ba 16) (grp2 h0 hz).symm
  generalize (bA a 1).toNat = y1 at *
  generalize (bA a 13).toNat = y13 at *
  generalize (bA a 14).toNat = y14 at *
  generalize (bA a 15).toNat = y15 at *
  clear hd hv
  have w0 : IntKind.wrap .u8 ((((((y1 * 256 + y13) * 256 + y14) * 256 + y15 : Nat)) : Int).fdiv (2 ^ (0 : Nat))) = (y15 : Int) := by rw [wB]; show ((_ / 1 % 256 : Nat) : Int) = _; omega
  have w1 : IntKind.wrap .u8 ((((((y1 * 256 + y13) * 256 + y14) * 256 + y15 : Nat)) : Int).fdiv (2 ^ (8 : Nat))) = (y14 : Int) := by rw [wB]; show ((_ / 256 % 256 : Nat) : Int) = _; omega
  have w2 : IntKind.wrap .u8 ((((((y1 * 256 + y13) * 256 + y14) * 256 + y15 : Nat)) : Int).fdiv (2 ^ (16 : Nat))) = (y13 : Int) := by rw [wB]; show ((_ / 65536 % 256 : Nat) : Int) = _; omega
  have w3 : IntKind.wrap .u8 ((((((y1 * 256 + y13) * 256 + y14) * 256 + y15 : Nat)) : Int).fdiv (2 ^ (24 : Nat))) = (y1 : Int) := by rw [wB]; show ((_ / 16777216 % 256 : Nat) : Int) = _; omega
  generalize ((y1 * 256 + y13) * 256 + y14) * 256 + y15 = v at *
  refine spec_of_run ttok mixed (T0 := 504475726167195635) (ts := [.cell 4 67, .tmp 5]) 70 rfl rfl rfl rfl (by simp) rfl ?_
  conv => whnf
  repeat' (first | ((apply Wr.eq w3); (conv => whnf)) | ((apply Elem.mk _ rfl); (conv => whnf)) | ((apply Need.mk (by decide)); (conv => whnf)) | ((first | ((with_reducible apply Nm.mk); focus ((try simp only [lns, beN_len, ipB_len]); exact rfl)) | ((with_reducible apply Wr.i64); focus omega) | (apply CallN.mk (c)) | ((with_reducible first | apply Bif.dec | apply Bif.beq | apply Bif.bne) <;> intro h <;> (try simp only [lns, beN_len, ipB_len] at h) <;> (try (exfalso; omega))) | (with_reducible apply Frz.l)) <;> conv => whnf) | fail)
  refine LoopN.unr 4 ttok mixed (T0 := 504475726167195635) ?_
  conv => whnf
  repeat' (first | with_reducible apply True.intro | ((apply Wr.eq w0); (conv => whnf)) | ((apply Wr.eq w1); (conv => whnf)) | ((apply Wr.eq w2); (conv => whnf)) | ((apply Same.mk hg); (conv => whnf)) | ((apply Same.mk rfl); (conv => whnf)) | ((first | ((with_reducible apply Nm.mk); focus ((try simp only [lns, beN_len, ipB_len]); exact rfl)) | ((with_reducible apply Wr.i64); focus omega) | ((with_reducible apply Need.mk); focus omega) | ((with_reducible apply Bif.dec) <;> intro h <;> (try simp only [lns, beN_len, ipB_len] at h) <;> (try (exfalso; omega))) | (with_reducible apply Frz.l)) <;> conv => whnf) | fail)
theorem k_rGrp1 (a : IP) (b : List UInt8) (at_ : Nat) (X : List UInt8) (h0 : gt a.1 0 = 255) (hz : zeroR a 2 11 = true) (hd : b.drop at_ = [bA a 1, bA a 11, bA a 12, bA a 13, bA a 14, bA a 15] ++ X) (hb : b.length ≤ 10000) :
    Con Tryz.prog 163 [.pb 0 [], int 1] [.cells (rdV b at_)] (.tup [ipV a, int 0]) [.cells (rdV b (at_ + 6))] := by
  have hl := congrArg List.length hd
  rw [List.length_drop] at hl
  simp at hl
  have c := k_rnum b at_ 6 (by decide) hb (by omega)
  rw [hd, List.take_left' (by rfl)] at c
  have hv : beV [bA a 1, bA a 11, bA a 12, bA a 13, bA a 14, bA a 15] = (((((bA a 1).toNat * 256 + (bA a 11).toNat) * 256 + (bA a 12).toNat) * 256 + (bA a 13).toNat) * 256 + (bA a 14).toNat) * 256 + (bA a 15).toNat := by simp [beV]
  rw [hv] at c
  have x1 := (bA a 1).toNat_lt
  have x11 := (bA a 11).toNat_lt
  have x12 := (bA a 12).toNat_lt
  have x13 := (bA a 13).toNat_lt
  have x14 := (bA a 14).toNat_lt
  have x15 := (bA a 15).toNat_lt
  have hg : SV.ba 16 [255, ((bA a 1).toNat : Int), 0, 0, 0, 0, 0, 0, 0, 0, 0, ((bA a 11).toNat : Int), ((bA a 12).toNat : Int), ((bA a 13).toNat : Int), ((bA a 14).toNat : Int), ((bA a 15).toNat : Int)] = ipV a := by
    rw [bA_gt (by decide), bA_gt (by decide), bA_gt (by decide), bA_gt (by decide), bA_gt (by decide), bA_gt (by decide)]; exact congrArg (SV.ba 16) (grp1 h0 hz).symm
  generalize (bA a 1).toNat = y1 at *
  generalize (bA a 11).toNat = y11 at *
  generalize (bA a 12).toNat = y12 at *
  generalize (bA a 13).toNat = y13 at *
  generalize (bA a 14).toNat = y14 at *
  generalize (bA a 15).toNat = y15 at *
  clear hd hv
  obtain ⟨v, hv⟩ : ∃ v, v = ((((y1 * 256 + y11) * 256 + y12) * 256 + y13) * 256 + y14) * 256 + y15 := ⟨_, rfl⟩
  rw [← hv] at c
  have w0 : IntKind.wrap .u8 ((v : Int).fdiv (2 ^ (0 : Nat))) = (y15 : Int) := by rw [wB]; show ((_ / 1 % 256 : Nat) : Int) = _; omega
  have w1 : IntKind.wrap .u8 ((v : Int).fdiv (2 ^ (8 : Nat))) = (y14 : Int) := by rw [wB]; show ((_ / 256 % 256 : Nat) : Int) = _; omega
  have w2 : IntKind.wrap .u8 ((v : Int).fdiv (2 ^ (16 : Nat))) = (y13 : Int) := by rw [wB]; show ((_ / 65536 % 256 : Nat) : Int) = _; omega
  have w3 : IntKind.wrap .u8 ((v : Int).fdiv (2 ^ (24 : Nat))) = (y12 : Int) := by rw [wB]; show ((_ / 16777216 % 256 : Nat) : Int) = _; omega
  have w4 : IntKind.wrap .u8 ((v : Int).fdiv (2 ^ (32 : Nat))) = (y11 : Int) := by rw [wB]; show ((_ / 4294967296 % 256 : Nat) : Int) = _; omega
  have w5 : IntKind.wrap .u8 ((v : Int).fdiv (2 ^ (40 : Nat))) = (y1 : Int) := by rw [wB]; show ((_ / 1099511627776 % 256 : Nat) : Int) = _; omega
  clear hv
  refine spec_of_run ttok mixed (T0 := 504475726167195635) (ts := [.cell 4 67, .tmp 5]) 70 rfl rfl rfl rfl (by simp) rfl ?_
  conv => whnf
  repeat' (first | ((apply Wr.eq w5); (conv => whnf)) | ((apply Elem.mk _ rfl); (conv => whnf)) | ((apply Need.mk (by decide)); (conv => whnf)) | ((first | ((with_reducible apply Nm.mk); focus ((try simp only [lns, beN_len, ipB_len]); exact rfl)) | ((with_reducible apply Wr.i64); focus omega) | (apply CallN.mk (c)) | ((with_reducible first | apply Bif.dec | apply Bif.beq | apply Bif.bne) <;> intro h <;> (try simp only [lns, beN_len, ipB_len] at h) <;> (try (exfalso; omega))) | (with_reducible apply Frz.l)) <;> conv => whnf) | fail)
  refine LoopN.unr 6 ttok mixed (T0 := 504475726167195635) ?_
  conv => whnf
  repeat' (first | with_reducible apply True.intro | ((apply Wr.eq w0); (conv => whnf)) | ((apply Wr.eq w1); (conv => whnf)) | ((apply Wr.eq w2); (conv => whnf)) | ((apply Wr.eq w3); (conv => whnf)) | ((apply Wr.eq w4); (conv => whnf)) | ((apply Same.mk hg); (conv => whnf)) | ((apply Same.mk rfl); (conv => whnf)) | ((first | ((with_reducible apply Nm.mk); focus ((try simp only [lns, beN_len, ipB_len]); exact rfl)) | ((with_reducible apply Wr.i64); focus omega) | ((with_reducible apply Need.mk); focus omega) | ((with_reducible apply Bif.dec) <;> intro h <;> (try simp only [lns, beN_len, ipB_len] at h) <;> (try (exfalso; omega))) | (with_reducible apply Frz.l)) <;> conv => whnf) | fail)
theorem k_rGrp0 (a : IP) (b : List UInt8) (at_ : Nat) (X : List UInt8) (h0 : gt a.1 0 = 255) (hd : b.drop at_ = ipB a ++ X) (hb : b.length ≤ 10000) :
    Con Tryz.prog 163 [.pb 0 [], int 0] [.cells (rdV b at_)] (.tup [ipV a, int 0]) [.cells (rdV b (at_ + 16))] := by
  have hl := congrArg List.length hd
  rw [List.length_drop, List.length_append, ipB_len] at hl
  have c := k_rip b at_ a hb (by omega) (by rw [hd, List.take_left' (ipB_len a)])
  have cm := k_aMulti a
  rw [decide_eq_true h0] at cm
  refine spec_of_run ttok mixed (T0 := 504475726167195635) (ts := [.cell 4 67, .tmp 5]) 70 rfl rfl rfl rfl (by simp) rfl ?_
  conv => whnf
  repeat' (first | with_reducible apply True.intro | ((apply Same.mk rfl); (conv => whnf)) | ((first | (apply CallN.mk (c)) | (apply CallN.mk (cm)) | (with_reducible apply Bif.T) | ((with_reducible apply Bif.beq) <;> intro h <;> (try simp only [lns, beN_len, ipB_len] at h) <;> (try (exfalso; omega))) | (with_reducible apply Bif.not) | (with_reducible apply Frz.l)) <;> conv => whnf) | fail)
/-- The reader of a multicast address, on its form. -/
theorem k_rGroup (a : IP) (b : List UInt8) (at_ : Nat) (X : List UInt8) (h0 : gt a.1 0 = 255) (hd : b.drop at_ = (groupF a).bytes ++ X) (hb : b.length ≤ 10000) :
    Con Tryz.prog 163 [.pb 0 [], int (groupF a).mode] [.cells (rdV b at_)] (.tup [ipV a, int 0]) [.cells (rdV b (at_ + (groupF a).bytes.length))] := by
  unfold groupF at hd ⊢
  by_cases h1 : gt a.1 1 = 2 ∧ zeroR a 2 15 = true
  · rw [if_pos h1] at hd ⊢
    exact k_rGrp3 a b at_ X h0 h1.1 h1.2 hd hb
  · rw [if_neg h1] at hd ⊢
    by_cases h2 : zeroR a 2 13 = true
    · rw [if_pos h2] at hd ⊢
      exact k_rGrp2 a b at_ X h0 h2 hd hb
    · rw [if_neg h2] at hd ⊢
      by_cases h3 : zeroR a 2 11 = true
      · rw [if_pos h3] at hd ⊢
        exact k_rGrp1 a b at_ X h0 h3 hd hb
      · rw [if_neg h3] at hd ⊢
        dsimp only at hd ⊢
        rw [ipB_len]
        exact k_rGrp0 a b at_ X h0 hd hb
end Go.Fw

/- IPHC: the first bytes, read. -/
namespace Go.Fw
open Go.Proofs
set_option maxHeartbeats 8000000
set_option maxRecDepth 8000
def andI (x k : Int) : Int := IntKind.wrap .i64 (BitVec.ofInt (IntKind.bits .i64) x &&& BitVec.ofInt (IntKind.bits .i64) k).toNat
theorem ofNat_toNat {n : Nat} (h : n ≤ 255) : (UInt8.ofNat n).toNat = n := by rw [UInt8.toNat_ofNat', Nat.mod_eq_of_lt (by omega)]
theorem k_start (first sec ids : Nat) (I Y : List UInt8) (h1 : 96 ≤ first ∧ first ≤ 127) (h2 : sec ≤ 255) (h3 : ids ≤ 255) (hY : Y.length ≤ 5000)
    (e4 : andI sec 4 = 0 ∨ (andI sec 8 = 0 ∧ andI sec 3 ≠ 0)) (e128 : (andI sec 128 = 0 ∧ I = [] ∧ ids = 0) ∨ (andI sec 128 ≠ 0 ∧ I = [UInt8.ofNat ids])) :
    Con Tryz.prog 157 [.pb 0 []] [.cells (rdV (UInt8.ofNat first :: UInt8.ofNat sec :: (I ++ Y)) 0)] (.tup [int (first : Int), int (sec : Int), int (ids : Int), int 0]) [.cells (rdV (UInt8.ofNat first :: UInt8.ofNat sec :: (I ++ Y)) (2 + I.length))] := by
  have c1 := k_rnum (UInt8.ofNat first :: UInt8.ofNat sec :: (I ++ Y)) 0 1 (by decide) (by rcases e128 with ⟨_, rfl, _⟩ | ⟨_, rfl⟩ <;> simp <;> omega) (by simp)
  have c2 := k_rnum (UInt8.ofNat first :: UInt8.ofNat sec :: (I ++ Y)) 1 1 (by decide) (by rcases e128 with ⟨_, rfl, _⟩ | ⟨_, rfl⟩ <;> simp <;> omega) (by simp)
  rw [show List.take 1 (List.drop 0 (UInt8.ofNat first :: UInt8.ofNat sec :: (I ++ Y))) = [UInt8.ofNat first] from rfl, beV1, ofNat_toNat (by omega)] at c1
  rw [show List.take 1 (List.drop 1 (UInt8.ofNat first :: UInt8.ofNat sec :: (I ++ Y))) = [UInt8.ofNat sec] from rfl, beV1, ofNat_toNat (by omega)] at c2
  rcases e128 with ⟨e128, rfl, rfl⟩ | ⟨e128, rfl⟩
  · generalize UInt8.ofNat first :: UInt8.ofNat sec :: ([] ++ Y) = C at *
    rcases e4 with e4 | ⟨e8, e3⟩
    all_goals
      refine spec_of_run ttok mixed (T0 := 2326109211865449469) (ts := [.tmp 2, .tmp 3, .tmp 4, .tmp 5]) 68 rfl rfl rfl rfl (by simp) rfl ?_
      conv => whnf
      repeat' (first | with_reducible apply True.intro | ((apply Same.mk rfl); (conv => whnf)) | ((first | ((with_reducible apply Wr.i64); focus omega) | (apply CallN.mk (c1)) | (apply CallN.mk (c2)) | (with_reducible first | apply Bif.T | apply Bif.F) | ((with_reducible first | apply Bif.dec | apply Bif.beq | apply Bif.bne) <;> intro h <;> (try simp only [lns, beN_len, ipB_len] at h) <;> (try first | (exfalso; omega) | (exact absurd e4 h) | (exact absurd e8 h) | (exact absurd h e3) | (exact absurd e128 h))) | (with_reducible apply Frz.l)) <;> conv => whnf) | fail)
  · have c3 := k_rnum (UInt8.ofNat first :: UInt8.ofNat sec :: ([UInt8.ofNat ids] ++ Y)) 2 1 (by decide) (by simp; omega) (by simp)
    rw [show List.take 1 (List.drop 2 (UInt8.ofNat first :: UInt8.ofNat sec :: ([UInt8.ofNat ids] ++ Y))) = [UInt8.ofNat ids] from rfl, beV1, ofNat_toNat (by omega)] at c3
    generalize UInt8.ofNat first :: UInt8.ofNat sec :: ([UInt8.ofNat ids] ++ Y) = C at *
    rcases e4 with e4 | ⟨e8, e3⟩
    all_goals
      refine spec_of_run ttok mixed (T0 := 2326109211865449469) (ts := [.tmp 2, .tmp 3, .tmp 4, .tmp 5]) 68 rfl rfl rfl rfl (by simp) rfl ?_
      conv => whnf
      repeat' (first | with_reducible apply True.intro | ((apply Same.mk rfl); (conv => whnf)) | ((first | ((with_reducible apply Wr.i64); focus omega) | (apply CallN.mk (c1)) | (apply CallN.mk (c2)) | (apply CallN.mk (c3)) | (with_reducible first | apply Bif.T | apply Bif.F) | ((with_reducible first | apply Bif.dec | apply Bif.beq | apply Bif.bne) <;> intro h <;> (try simp only [lns, beN_len, ipB_len] at h) <;> (try first | (exfalso; omega) | (exact absurd e4 h) | (exact absurd e8 h) | (exact absurd h e3) | (exact absurd h e128))) | (with_reducible apply Frz.l)) <;> conv => whnf) | fail)
end Go.Fw

/- IPHC: an address that is not a multicast address, read on its form. -/
namespace Go.Fw
open Go.Proofs
set_option maxHeartbeats 8000000
set_option maxRecDepth 8000
theorem beN_snoc (n v : Nat) : beN (n + 1) v = beN n (v / 256) ++ [UInt8.ofNat v] := by
  apply ext_gt
  · simp [beN_len]
  · intro i hi
    rw [beN_len] at hi
    rw [gt_beN hi, gt_app, beN_len]
    split
    · rename_i h2
      rw [gt_beN h2, Nat.div_div_eq_div_mul, show n + 1 - 1 - i = (n - 1 - i) + 1 by omega, Nat.pow_succ, Nat.mul_comm]
    · have : i = n := by omega
      subst this
      rw [Nat.sub_self, show i + 1 - 1 - i = 0 by omega]
      simp [gt]
theorem beN_beV : ∀ {n : Nat} {l : List UInt8}, l.length = n → beN n (beV l) = l
  | 0, l, h => by
    have : l = [] := List.length_eq_zero_iff.1 h
    subst this; rfl
  | n + 1, l, h => by
    have hne : l ≠ [] := fun e => by subst e; cases h
    have e := List.dropLast_concat_getLast hne
    have hl : l.dropLast.length = n := by rw [List.length_dropLast]; omega
    have ih := beN_beV hl
    rw [← e, beV_snoc, beN_snoc]
    have hc := (l.getLast hne).toNat_lt
    have e1 : (beV l.dropLast * 256 + (l.getLast hne).toNat) / 256 = beV l.dropLast := by omega
    have e2 : UInt8.ofNat (beV l.dropLast * 256 + (l.getLast hne).toNat) = l.getLast hne := UInt8.toNat_inj.1 (by rw [UInt8.toNat_ofNat']; omega)
    rw [e1, e2, ih]
theorem beN_hilo (a : IP) : beN 8 (hiN a) ++ beN 8 (loN a) = ipB a := by
  rw [hiN, loN, beN_beV (by simp [ipB_len]), beN_beV (by simp [ipB_len]), List.take_append_drop]
theorem beV_short (v : Nat) : beV (beN 2 v) = v % 65536 := by
  have e : beN 2 v = [UInt8.ofNat (v / 256 ^ 1), UInt8.ofNat (v / 256 ^ 0)] := rfl
  rw [e]
  simp [beV, UInt8.toNat_ofNat']
  omega
theorem gt_id {l : List Cxt} (h : VCx l) {i j : Nat} (hij : i < j) (hj : j < l.length) : (gt l i).id < (gt l j).id := by
  induction j with
  | zero => omega
  | succ j ih =>
    have h1 := (h.ids (j + 1) hj).1
    simp only [prevC] at h1
    by_cases e : i = j
    · subst e; exact h1
    · have := ih (by omega) (by omega); omega
theorem pfxOf_ctx {l : List Cxt} {a : IP} {now : Int} {c : Cxt} (h : VCx l) (hf : forC l a now = some c) (hb : c.pfx.bits ≤ 64) (hm : gt c.pfx.ip.1 0 ≠ 255) : PfxOf l c.id now true c.pfx := by
  obtain ⟨hc, hok⟩ := forC_some hf
  refine ⟨(h.mem hc).1, hb, hm, (fun g => (by cases g)), fun _ => ?_⟩
  obtain ⟨k, hk, rfl⟩ := List.mem_iff_getElem.1 hc
  rw [← gt_eq hk] at hok ⊢
  have hcm : compC (gt l k) now = true := by rw [okC, Bool.and_eq_true] at hok; exact hok.1
  have hti : now < (gt l k).til := by rw [compC, Bool.and_eq_true, decide_eq_true_eq] at hcm; exact hcm.2
  refine ⟨k, hk, fun j hj => ?_, ?_, rfl⟩
  · have := gt_id h hj hk
    rw [okD, decide_eq_false (by omega)]; rfl
  · rw [okD, decide_eq_true rfl, decoC, decide_eq_true (by omega)]; rfl
theorem pfxOf_ll (l : List Cxt) (id now : Int) : PfxOf l id now false llP := ⟨llP_v, by decide, by decide, fun _ => rfl, fun g => (by cases g)⟩
theorem k_rIid (e : Nat) (he : e ≤ 18446744073709551615) (b X : List UInt8) (at_ v : Nat) (l : List Cxt) (id now : Int) (ctx : Bool) (P : Pfx) (h : VCx l) (hn : isTm now) (hl : l.length ≤ 1000) (hp : PfxOf l id now ctx P) (hb : b.length ≤ 10000) (hv : v ≤ 18446744073709551615)
    (loc : Bool) (c : Cxt) (hd : b.drop at_ = (iidF loc c e v).bytes ++ X) :
    Con Tryz.prog 162 [.pb 0 [], bool ctx, int (iidF loc c e v).mode, lnkV e, .clo 160 [.pb 1 [], .pb 2 [], .pb 3 []]]
      [.cells (rdV b at_), .cells (cxts l), .cells (int id), .cells (int now)] (.tup [ipV (ipN P.ip v), int 0]) [.cells (rdV b (at_ + (iidF loc c e v).bytes.length)), .cells (cxts l), .cells (int id), .cells (int now)] := by
  have hlen := congrArg List.length hd
  rw [List.length_drop, List.length_append] at hlen
  unfold iidF at hd hlen ⊢
  by_cases hi : iidL e = v
  · rw [if_pos hi] at hd hlen ⊢
    exact k_rUni e he b at_ at_ v l id now 3 ctx P h hn hl hp hb (.inl ⟨rfl, rfl, hi.symm⟩)
  · rw [if_neg hi] at hd hlen ⊢
    by_cases hs : shortI v = true
    · rw [if_pos hs] at hd hlen ⊢
      have hs2 : v / 65536 = 16776704 := of_decide_eq_true hs
      dsimp only [chF] at hd hlen ⊢
      rw [beN_len] at hlen ⊢
      exact k_rUni e he b at_ (at_ + 2) v l id now 2 ctx P h hn hl hp hb (.inr (.inl ⟨rfl, rfl, by omega, by rw [hd, List.take_left' (beN_len 2 v), beV_short]; omega⟩))
    · rw [if_neg hs] at hd hlen ⊢
      dsimp only [chF] at hd hlen ⊢
      rw [beN_len] at hlen ⊢
      exact k_rUni e he b at_ (at_ + 8) v l id now 1 ctx P h hn hl hp hb (.inr (.inr ⟨rfl, rfl, by omega, by rw [hd, List.take_left' (beN_len 8 v), beV_beN 8 v (by omega)]⟩))
theorem iidF_id (loc : Bool) (c : Cxt) (e v : Nat) : (iidF loc c e v).id = (if loc = true then 0 else c.id) ∧ (iidF loc c e v).ctx = !loc := by
  unfold iidF; split
  · exact ⟨rfl, rfl⟩
  · split <;> exact ⟨rfl, rfl⟩
theorem k_rUniF (a : IP) (e : Nat) (he : e ≤ 18446744073709551615) (s : Bool) (l : List Cxt) (now : Int) (h : VCx l) (hn : isTm now) (hl : l.length ≤ 1000) (h0 : ¬ (s = true ∧ a = ip0)) (hm : gt a.1 0 ≠ 255) (b X : List UInt8) (at_ : Nat) (hb : b.length ≤ 10000)
    (hd : b.drop at_ = (uniF a e s l now).bytes ++ X) (cb : Bool) (mi id' : Int) (hcb : cb = (uniF a e s l now).ctx) (hmi : mi = (uniF a e s l now).mode) (hid : id' = (uniF a e s l now).id) :
    Con Tryz.prog 162 [.pb 0 [], bool cb, int mi, lnkV e, .clo 160 [.pb 1 [], .pb 2 [], .pb 3 []]]
      [.cells (rdV b at_), .cells (cxts l), .cells (int id'), .cells (int now)] (.tup [ipV a, int 0]) [.cells (rdV b (at_ + (uniF a e s l now).bytes.length)), .cells (cxts l), .cells (int id'), .cells (int now)] := by
  subst hcb hmi hid
  have hlen := congrArg List.length hd
  rw [List.length_drop, List.length_append] at hlen
  by_cases hy : localI a = true ∨ (knownC l a now).isSome = true
  · rw [uniF_iid h0 hy] at hd ⊢
    obtain ⟨e1, e2⟩ := iidF_id (localI a) (bestV (forC l a now)) e (loN a)
    rw [e1, e2]
    cases hloc : localI a
    · rw [hloc] at hd hy
      have hk : (knownC l a now).isSome = true := hy.resolve_left (by simp)
      cases hf : forC l a now with
      | none => rw [knownC, hf] at hk; cases hk
      | some c =>
        rw [knownC_some hf, decide_eq_true_eq] at hk
        rw [hf] at hd
        have hmc : gt c.pfx.ip.1 0 ≠ 255 := by rw [← gt_ipN (a := c.pfx.ip) (v := loN a) (by decide), hk.2]; exact hm
        have := k_rIid e he b X at_ (loN a) l c.id now true c.pfx h hn hl (pfxOf_ctx h hf hk.1 hmc) hb (loN_le a) false c hd
        rw [hk.2] at this
        exact this
    · rw [hloc] at hd
      have hll : ipN llP.ip (loN a) = a := (of_decide_eq_true (show localI a = true from hloc)).2
      have := k_rIid e he b X at_ (loN a) l 0 now false llP h hn hl (pfxOf_ll l 0 now) hb (loN_le a) true _ hd
      rw [hll] at this
      exact this
  · rw [uniF_no h0 (Bool.eq_false_iff.2 fun g => hy (.inl g)) (Bool.eq_false_iff.2 fun g => hy (.inr g))] at hd hlen ⊢
    dsimp only at hd hlen ⊢
    rw [beN_hilo] at hd hlen ⊢
    rw [ipB_len] at hlen ⊢
    exact k_rUniA e he b at_ a l 0 now hb (by omega) (by rw [hd, List.take_left' (ipB_len a)]) hm
end Go.Fw

/- IPHC: a compressed header, read. -/
namespace Go.Fw
open Go.Proofs
set_option maxHeartbeats 8000000
set_option maxRecDepth 8000
def secN (i c : Bool) (m : Nat) (mc d : Bool) (n : Nat) : Int := (if i = true then 128 else 0) + (if c = true then 64 else 0) + 16 * (m : Int) + ((if mc = true then 8 else 0) + (if d = true then 4 else 0) + (n : Int))
def shrI (x : Int) : Int := x.fdiv (2 ^ min (Int.toNat 4) (IntKind.bits .i64))
theorem sec_all : ∀ (i c : Bool) (m : Fin 4) (mc d : Bool) (n : Fin 4),
    (andI (secN i c m.1 mc d n.1) 128 = if i = true then 128 else 0) ∧ (andI (secN i c m.1 mc d n.1) 64 = if c = true then 64 else 0) ∧ andI (shrI (secN i c m.1 mc d n.1)) 3 = (m.1 : Int) ∧
      (andI (secN i c m.1 mc d n.1) 8 = if mc = true then 8 else 0) ∧ (andI (secN i c m.1 mc d n.1) 4 = if d = true then 4 else 0) ∧ andI (secN i c m.1 mc d n.1) 3 = (n.1 : Int) := by decide +kernel
theorem ids_all : ∀ (x y : Fin 16), shrI (16 * (x.1 : Int) + (y.1 : Int)) = (x.1 : Int) ∧ andI (16 * (x.1 : Int) + (y.1 : Int)) 15 = (y.1 : Int) := by decide +kernel
theorem secF_bits (mc : Bool) (f g : Cpa) (hf : OkC f) (hg : OkC g) :
    (andI (secF mc f g) 128 ≠ 0 ↔ idsF f g ≠ 0) ∧ ((andI (secF mc f g) 64 != 0) = f.ctx) ∧ andI (shrI (secF mc f g)) 3 = f.mode ∧ ((andI (secF mc f g) 8 != 0) = mc) ∧ ((andI (secF mc f g) 4 != 0) = g.ctx) ∧ andI (secF mc f g) 3 = g.mode := by
  obtain ⟨m, hm⟩ : ∃ m : Fin 4, f.mode = (m.1 : Int) := ⟨⟨f.mode.toNat, by have := hf.mode; omega⟩, by have := hf.mode; show f.mode = ((f.mode.toNat : Nat) : Int); omega⟩
  obtain ⟨n, hn⟩ : ∃ n : Fin 4, g.mode = (n.1 : Int) := ⟨⟨g.mode.toNat, by have := hg.mode; omega⟩, by have := hg.mode; show g.mode = ((g.mode.toNat : Nat) : Int); omega⟩
  have e : secF mc f g = secN (16 * f.id + g.id != 0) f.ctx m.1 mc g.ctx n.1 := by unfold secF secN; rw [hm, hn]
  obtain ⟨a1, a2, a3, a4, a5, a6⟩ := sec_all (16 * f.id + g.id != 0) f.ctx m mc g.ctx n
  rw [e, a1, a2, a3, a4, a5, a6, hm, hn]
  refine ⟨?_, ?_, rfl, ?_, ?_, rfl⟩
  · rw [idsF]; by_cases h : 16 * f.id + g.id = 0 <;> simp [h]
  · cases f.ctx <;> rfl
  · cases mc <;> rfl
  · cases g.ctx <;> rfl
theorem ids_bits (f g : Cpa) (hf : OkC f) (hg : OkC g) : shrI (idsF f g) = f.id ∧ andI (idsF f g) 15 = g.id := by
  obtain ⟨m, hm⟩ : ∃ m : Fin 16, f.id = (m.1 : Int) := ⟨⟨f.id.toNat, by have := hf.id; omega⟩, by have := hf.id; show f.id = ((f.id.toNat : Nat) : Int); omega⟩
  obtain ⟨n, hn⟩ : ∃ n : Fin 16, g.id = (n.1 : Int) := ⟨⟨g.id.toNat, by have := hg.id; omega⟩, by have := hg.id; show g.id = ((g.id.toNat : Nat) : Int); omega⟩
  rw [idsF, hm, hn]; exact ids_all m n
end Go.Fw
