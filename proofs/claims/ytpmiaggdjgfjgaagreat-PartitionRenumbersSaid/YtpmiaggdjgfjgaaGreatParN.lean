/- Prefixes, destinations, distances, as plain data; masks. -/
import Derived.Test.YtpmiaggdjgfjgaaGreatParS

namespace Go.Fw
set_option maxRecDepth 4000
open Go.Proofs
structure Pfx where
  ip : IP
  bits : Int
  deriving DecidableEq, Inhabited
def pfxV (p : Pfx) : SV := .agg [ipV p.ip, .v (.int .i64 p.bits)]
theorem pfx_mk (a : IP) (b : Int) : SV.agg [ipV a, .v (.int .i64 b)] = pfxV ⟨a, b⟩ := rfl
def ip0 : IP := ⟨List.replicate 16 0, by decide⟩
def pfx0 : Pfx := ⟨ip0, 0⟩
structure Dst where
  dst : Pfx
  src : Pfx
  router : Int
  deriving DecidableEq, Inhabited
def dstV (t : Dst) : SV := .agg [pfxV t.dst, pfxV t.src, .v (.int .u64 t.router)]
theorem dst_mk (a b : Pfx) (r : Int) : SV.agg [pfxV a, pfxV b, .v (.int .u64 r)] = dstV ⟨a, b, r⟩ := rfl
structure Dis where
  seq : Int
  metric : Int
  deriving DecidableEq, Inhabited
def disV (d : Dis) : SV := .agg [.v (.int .u16 d.seq), .v (.int .i64 d.metric)]
theorem dis_mk (a b : Int) : SV.agg [.v (.int .u16 a), .v (.int .i64 b)] = disV ⟨a, b⟩ := rfl
theorem pfx_ext {a b : Pfx} (h1 : a.ip = b.ip) (h2 : a.bits = b.bits) : a = b := by cases a; cases b; simp_all
theorem dst_ext {a b : Dst} (h1 : a.dst = b.dst) (h2 : a.src = b.src) (h3 : a.router = b.router) : a = b := by cases a; cases b; simp_all
theorem dis_ext {a b : Dis} (h1 : a.seq = b.seq) (h2 : a.metric = b.metric) : a = b := by cases a; cases b; simp_all
theorem pfx_eq (a b : Pfx) : (a.ip.1 == b.ip.1 && (a.bits == b.bits && true)) = decide (a = b) := by
  rw [Bool.eq_iff_iff]
  simp only [Bool.and_eq_true, beq_iff_eq, decide_eq_true_eq, and_true]
  exact ⟨fun ⟨h1, h2⟩ => pfx_ext (ip_ext h1) h2, fun h => by subst h; simp⟩
theorem dst_eq (a b : Dst) : ((a.dst.ip.1 == b.dst.ip.1 && (a.dst.bits == b.dst.bits && true)) && ((a.src.ip.1 == b.src.ip.1 && (a.src.bits == b.src.bits && true)) && (a.router == b.router && true))) = decide (a = b) := by
  rw [pfx_eq, pfx_eq, Bool.eq_iff_iff]
  simp only [Bool.and_eq_true, beq_iff_eq, decide_eq_true_eq, and_true]
  exact ⟨fun ⟨h1, h2, h3⟩ => dst_ext h1 h2 h3, fun h => by subst h; simp⟩
theorem dis_eq (a b : Dis) : (a.seq == b.seq && (a.metric == b.metric && true)) = decide (a = b) := by
  rw [Bool.eq_iff_iff]
  simp only [Bool.and_eq_true, beq_iff_eq, decide_eq_true_eq, and_true]
  exact ⟨fun ⟨h1, h2⟩ => dis_ext h1 h2, fun h => by subst h; simp⟩
/-! ### Masks -/
/-- How many of the first so many bits lie in byte i. -/
def keepN (bits i : Int) : Int := min (max (bits - 8 * i) 0) 8
/-- The first k bits of a byte. -/
def cutB (x k : Int) : Int := x - x % 2 ^ (8 - k.toNat)
def maskL (l : List Int) (bits : Int) : List Int := (List.range 16).map fun i => cutB (gt l i) (keepN bits i)
theorem keepN_range (b i : Int) : 0 ≤ keepN b i ∧ keepN b i ≤ 8 := by unfold keepN; omega
theorem fin_ex {x n : Int} (h : 0 ≤ x ∧ x < n) : ∃ y : Fin n.toNat, x = (y.1 : Int) := ⟨⟨x.toNat, by omega⟩, by simp; omega⟩
theorem cutB_all : ∀ (x : Fin 256) (k : Fin 9), 0 ≤ cutB (x.1 : Int) (k.1 : Int) ∧ cutB (x.1 : Int) (k.1 : Int) ≤ 255 ∧
    IntKind.wrap .u8 ((BitVec.ofInt 8 (x.1 : Int) &&& ~~~ BitVec.ofInt 8 (Int.fdiv 255 (2 ^ (min k.1 8)))).toNat) = cutB (x.1 : Int) (k.1 : Int) := by decide +kernel
theorem cutB_range {x k : Int} (hx : 0 ≤ x ∧ x ≤ 255) (hk : 0 ≤ k ∧ k ≤ 8) : 0 ≤ cutB x k ∧ cutB x k ≤ 255 := by
  obtain ⟨y, rfl⟩ := fin_ex (n := 256) (x := x) (by omega)
  obtain ⟨z, rfl⟩ := fin_ex (n := 9) (x := k) (by omega)
  have := cutB_all y z
  exact ⟨this.1, this.2.1⟩
theorem cutB_is {x k : Int} (hx : 0 ≤ x ∧ x ≤ 255) (hk : 0 ≤ k ∧ k ≤ 8) : IntKind.wrap .u8 ((BitVec.ofInt 8 x &&& ~~~ BitVec.ofInt 8 (Int.fdiv 255 (2 ^ (min k.toNat 8)))).toNat) = cutB x k := by
  obtain ⟨y, rfl⟩ := fin_ex (n := 256) (x := x) (by omega)
  obtain ⟨z, rfl⟩ := fin_ex (n := 9) (x := k) (by omega)
  exact (cutB_all y z).2.2
theorem maskL_len (l : List Int) (b : Int) : (maskL l b).length = 16 := by simp [maskL]
theorem gt_maskL {l : List Int} {b : Int} {i : Nat} (hi : i < 16) : gt (maskL l b) i = cutB (gt l i) (keepN b i) := by
  rw [gt_eq (by rw [maskL_len]; exact hi)]
  simp [maskL]
theorem byte_gt {a : IP} {i : Nat} (hi : i < 16) : 0 ≤ gt a.1 i ∧ gt a.1 i ≤ 255 := a.2.2 _ (gt_mem (by rw [a.2.1]; exact hi))
theorem maskL_ok (a : IP) (b : Int) : (maskL a.1 b).length = 16 ∧ ∀ x ∈ maskL a.1 b, 0 ≤ x ∧ x ≤ 255 := by
  refine ⟨maskL_len _ _, fun x hx => ?_⟩
  simp only [maskL, List.mem_map, List.mem_range] at hx
  obtain ⟨i, hi, rfl⟩ := hx
  exact cutB_range (byte_gt hi) (keepN_range _ _)
def maskI (a : IP) (b : Int) : IP := ⟨maskL a.1 b, maskL_ok a b⟩
/-- address.Mask -/
def maskP (a : IP) (b : Int) : Pfx := ⟨maskI a (min (max b 0) 128), min (max b 0) 128⟩
def vPfx (p : Pfx) : Bool := decide (0 ≤ p.bits ∧ p.bits ≤ 128 ∧ maskI p.ip p.bits = p.ip)
/-- The bits of a byte, from the greatest. -/
theorem bits_all : ∀ (x : Fin 256) (k : Fin 9), (∀ r : Fin 8, k.1 ≤ r.1 → ((x.1 : Int).fdiv (2 ^ (7 - r.1)) % 2 = 0)) ↔ cutB (x.1 : Int) (k.1 : Int) = (x.1 : Int) := by decide +kernel
theorem bits_cut {x k : Int} (hx : 0 ≤ x ∧ x ≤ 255) (hk : 0 ≤ k ∧ k ≤ 8) : (∀ r : Nat, r < 8 → k ≤ r → x.fdiv (2 ^ (7 - r)) % 2 = 0) ↔ cutB x k = x := by
  obtain ⟨y, rfl⟩ := fin_ex (n := 256) (x := x) (by omega)
  obtain ⟨z, rfl⟩ := fin_ex (n := 9) (x := k) (by omega)
  rw [← bits_all]
  exact ⟨fun h r hr => h r.1 r.2 (by omega), fun h r hr hk => h ⟨r, hr⟩ (by simp; omega)⟩
/-- The bit i of an address. -/
def bitI (a : IP) (i : Nat) : Int := (gt a.1 (i / 8)).fdiv (2 ^ (7 - i % 8)) % 2
theorem vPfx_bits {p : Pfx} (h : 0 ≤ p.bits ∧ p.bits ≤ 128) : vPfx p = true ↔ ∀ i : Nat, p.bits ≤ i → i < 128 → bitI p.ip i = 0 := by
  rw [vPfx, decide_eq_true_eq]
  have key : maskI p.ip p.bits = p.ip ↔ ∀ j : Nat, j < 16 → cutB (gt p.ip.1 j) (keepN p.bits j) = gt p.ip.1 j := by
    constructor
    · intro e j hj
      have := congrArg (fun q : IP => gt q.1 j) e
      rwa [show gt (maskI p.ip p.bits).1 j = _ from gt_maskL hj] at this
    · intro e
      apply ip_ext
      have l1 : (maskI p.ip p.bits).1.length = 16 := maskL_len _ _
      have l2 := p.ip.2.1
      exact ext_gt (by omega) fun i hi => by
        rw [show gt (maskI p.ip p.bits).1 i = _ from gt_maskL (by omega)]
        exact e i (by omega)
  rw [key]
  constructor
  · rintro ⟨_, _, e⟩ i h1 h2
    exact (bits_cut (byte_gt (i := i / 8) (by omega)) (keepN_range p.bits ((i / 8 : Nat) : Int))).2 (e (i / 8) (by omega)) (i % 8) (by omega) (by unfold keepN; omega)
  · intro e
    refine ⟨h.1, h.2, fun j hj => ?_⟩
    refine (bits_cut (byte_gt hj) (keepN_range _ _)).1 fun r hr hk => ?_
    have := e (8 * j + r) (by unfold keepN at hk; omega) (by omega)
    simp only [bitI] at this
    rwa [show (8 * j + r) / 8 = j by omega, show (8 * j + r) % 8 = r by omega] at this
end Go.Fw

/- Prefixes: address.Mask, ValidPrefix on both sides. -/
namespace Go.Fw
set_option maxRecDepth 4000
open Go.Proofs
set_option maxHeartbeats 4000000
/-- The first k bytes, masked. -/
def mIP (l : List Int) (b : Int) (k : Nat) : List Int := (List.range 16).map fun i => if i < k then cutB (gt l i) (keepN b i) else 0
theorem mIP_len (l : List Int) (b : Int) (k : Nat) : (mIP l b k).length = 16 := by simp [mIP]
theorem mIP_zero (l : List Int) (b : Int) : mIP l b 0 = List.replicate 16 0 := by
  rfl
theorem mIP_all (l : List Int) (b : Int) : mIP l b 16 = maskL l b := by
  apply List.map_congr_left
  intro i hi
  rw [if_pos (List.mem_range.1 hi)]
theorem mIP_succ {l : List Int} {b : Int} {k : Nat} (hk : k < 16) : (mIP l b k).set k (cutB (gt l k) (keepN b k)) = mIP l b (k + 1) := by
  apply List.ext_getElem?
  intro i
  rw [List.getElem?_set]
  simp only [mIP, List.length_map, List.length_range, List.getElem?_map]
  by_cases hi : k = i
  · subst hi
    simp [hk]
  · rw [if_neg hi]
    by_cases h16 : i < 16
    · rw [List.getElem?_range h16]
      simp only [Option.map_some]
      congr 1
      by_cases h1 : i < k
      · rw [if_pos h1, if_pos (by omega)]
      · rw [if_neg h1, if_neg (by omega)]
    · rw [List.getElem?_eq_none (by simpa using h16)]; rfl
theorem mIP_step {a : IP} {c : Int} {k : Nat} (hk : k < 16) : (mIP a.1 c k).set k (IntKind.wrap .u8 ((BitVec.ofInt (IntKind.bits .u8) (a.1.getD k 0) &&& ~~~BitVec.ofInt (IntKind.bits .u8) (Int.fdiv 255 (2 ^ min (min (max (c - 8 * (k : Int)) 0) 8).toNat (IntKind.bits .u8)))).toNat)) = mIP a.1 c (k + 1) := by
  rw [← mIP_succ hk, ← cutB_is (byte_gt hk) (keepN_range c k)]
  rfl
theorem k_Mask (a : IP) (b : Int) : Con Tryz.prog 66 [ipV a, int b] [] (pfxV (maskP a b)) [] := by
  have la := a.2.1
  refine spec_of_run ttok mixed (T0 := 12535) (ts := [.cell 4 34]) 33 rfl rfl rfl rfl (by simp) rfl ?_
  conv => whnf
  repeat' (first | ((with_reducible apply Frz.l) <;> conv => whnf) | fail)
  obtain ⟨c, hc⟩ : ∃ c, c = min (max b 0) 128 := ⟨_, rfl⟩
  refine loop_keep ttok mixed (T0 := 12535) [] (ι := {k : Nat // k ≤ 16})
    (fun k => [(12, int (k.1 : Int)), (2, .pb 0 []), (4, .pb 1 []), (5, .pb 2 [])]) (fun k => [.cells (ipV a), .cells (pfxV pfx0), .cells (.agg [.ba 16 (mIP a.1 c k.1), .v (.int .i64 c)])]) (fun k => 16 - k.1) ⟨0, by omega⟩ ?_
  conv => whnf
  repeat' (first | ((apply Same.mk (by rw [mIP_zero, hc]; rfl)); (conv => whnf)) | ((first | (with_reducible apply Same.rfl) | (apply Same.int; focus rfl) | (apply Same.rfl) | (with_reducible apply Frz.l)) <;> conv => whnf) | fail)
  rintro ⟨k, hk⟩
  dsimp only
  conv => whnf
  repeat' (first | ((first | ((with_reducible apply Nm.mk); focus ((try simp only [lns]); exact rfl)) | ((with_reducible apply Wr.i64); focus omega) | ((with_reducible apply Need.mk); focus first | omega | kernel_rfl) | ((with_reducible apply Bif.dec) <;> intro h <;> (try simp only [lns] at h)) | (with_reducible apply Frz.l)) <;> conv => whnf) | fail)
  · (refine ⟨⟨k + 1, by omega⟩, ?_⟩; (try dsimp only); conv => whnf); repeat' (first | with_reducible apply True.intro | ((apply Same.mk (by rw [mIP_step (by omega)])); (conv => whnf)) | ((first | ((with_reducible apply Need.mk); focus omega) | (with_reducible apply Same.rfl) | (apply Same.int; focus rfl) | (with_reducible apply Turn.l) | (with_reducible apply Frz.l)) <;> conv => whnf) | fail)
  · have e : k = 16 := by omega
    subst e
    rw [mIP_all, hc]
    repeat' (first | with_reducible apply True.intro | ((first | (apply Same.int; focus rfl) | (apply Same.rfl) | (with_reducible apply Frz.l)) <;> conv => whnf) | fail)
theorem maskP_eq {p : Pfx} (h : 0 ≤ p.bits ∧ p.bits ≤ 128) : decide (maskP p.ip p.bits = p) = vPfx p := by
  rw [Bool.eq_iff_iff, decide_eq_true_eq, vPfx, decide_eq_true_eq]
  have e : min (max p.bits 0) 128 = p.bits := by omega
  constructor
  · intro g
    refine ⟨h.1, h.2, ?_⟩
    have := congrArg Pfx.ip g
    rwa [show (maskP p.ip p.bits).ip = maskI p.ip (min (max p.bits 0) 128) from rfl, e] at this
  · rintro ⟨_, _, g⟩
    exact pfx_ext (by rw [show (maskP p.ip p.bits).ip = maskI p.ip (min (max p.bits 0) 128) from rfl, e, g]) e
theorem vPfx_out {p : Pfx} (h : ¬ (0 ≤ p.bits ∧ p.bits ≤ 128)) : vPfx p = false := by
  rw [vPfx, decide_eq_false_iff_not]; exact fun g => h ⟨g.1, g.2.1⟩
theorem k_ValidPrefix (p : Pfx) : Con Tryz.prog 40 [pfxV p] [] (bool (vPfx p)) [] := by
  refine spec_of_run ttok mixed (T0 := 7) (ts := [.tmp 2]) 20 rfl rfl rfl rfl (by simp) rfl ?_
  conv => whnf
  repeat' (first | ((first | ((with_reducible apply Need.mk); focus kernel_rfl) | (apply CallN.mk (k_Mask _ _)) | (with_reducible first | apply Bif.T | apply Bif.F) | ((with_reducible apply Bif.dec) <;> intro h <;> (try simp only [lns] at h)) | (with_reducible apply Frz.l)) <;> conv => whnf) | fail)
  · apply Same.bool (by rw [pfx_eq, maskP_eq ⟨by omega, by omega⟩]); (conv => whnf); repeat' (first | with_reducible apply True.intro | ((with_reducible apply Frz.l) <;> conv => whnf) | fail)
  · apply Same.bool (vPfx_out (by omega)).symm; (conv => whnf); repeat' (first | with_reducible apply True.intro | ((with_reducible apply Frz.l) <;> conv => whnf) | fail)
  · apply Same.bool (vPfx_out (by omega)).symm; (conv => whnf); repeat' (first | with_reducible apply True.intro | ((with_reducible apply Frz.l) <;> conv => whnf) | fail)
theorem and1_all : ∀ (x : Fin 256) (r : Fin 8), IntKind.wrap .u8 ((BitVec.ofInt 8 (Int.fdiv (x.1 : Int) (2 ^ (min (7 - r.1) 8))) &&& BitVec.ofInt 8 1).toNat) = (x.1 : Int).fdiv (2 ^ (7 - r.1)) % 2 := by decide +kernel
theorem and1 {x : Int} {r : Nat} (hx : 0 ≤ x ∧ x ≤ 255) (hr : r < 8) : IntKind.wrap .u8 ((BitVec.ofInt 8 (Int.fdiv x (2 ^ (min (7 - r) 8))) &&& BitVec.ofInt 8 1).toNat) = x.fdiv (2 ^ (7 - r)) % 2 := by
  obtain ⟨y, rfl⟩ := fin_ex (n := 256) (x := x) (by omega)
  exact and1_all y ⟨r, hr⟩
theorem k_bit (a : IP) (i : Nat) (hi : i < 128) : Con Tryz.prog 23 [ipV a, int i] [] (.v (.int .u8 (bitI a i))) [] := by
  have e1 : (i : Int).tdiv 8 = ((i / 8 : Nat) : Int) := by rw [Int.tdiv_eq_ediv_of_nonneg (by omega)]; omega
  have e2 : (i : Int).tmod 8 = ((i % 8 : Nat) : Int) := by rw [Int.tmod_eq_emod_of_nonneg (by omega)]; omega
  have hw1 : IntKind.wrap .i64 ((i : Int).tdiv 8) = ((i / 8 : Nat) : Int) := by rw [e1, wrap64_id (by omega)]
  have hw2 : IntKind.wrap .u64 ((i : Int).tmod 8) = ((i % 8 : Nat) : Int) := by rw [e2]; simp [IntKind.wrap, IntKind.bits, IntKind.signed]; omega
  have e3 : ((7 : Int) - ((i % 8 : Nat) : Int)).toNat = 7 - i % 8 := by omega
  refine spec_of_run ttok mixed (T0 := 23) (ts := [.tmp 4]) 15 rfl rfl rfl rfl (by simp) rfl ?_
  conv => whnf
  repeat' (first | ((apply Wr.eq hw1); (conv => whnf)) | ((apply Wr.eq hw2); (conv => whnf)) | ((first | ((with_reducible apply Nm.mk); focus ((try simp only [lns]); exact rfl)) | ((with_reducible apply Wr.u64); focus omega) | ((with_reducible apply Need.mk); focus omega) | (with_reducible apply Frz.l)) <;> conv => whnf) | fail)
  all_goals (apply Same.int (by rw [e3]; exact and1 (byte_gt (by omega)) (by omega)); (conv => whnf); repeat' (first | with_reducible apply True.intro | ((with_reducible apply Frz.l) <;> conv => whnf) | fail))
theorem k_ref04_ValidPrefix (p : Pfx) : Con Tryz.prog 49 [pfxV p] [] (bool (vPfx p)) [] := by
  by_cases hb : 0 ≤ p.bits ∧ p.bits ≤ 128
  · refine spec_of_run ttok mixed (T0 := 4229135) (ts := [.tmp 2]) 23 rfl rfl rfl rfl (by simp) rfl ?_
    conv => whnf
    repeat' (first | ((first | (with_reducible apply Bif.F) | ((with_reducible apply Bif.dec) <;> intro h <;> (try simp only [lns] at h) <;> (try (exfalso; omega))) | (with_reducible apply Frz.l)) <;> conv => whnf) | fail)
    refine loop_keep ttok mixed (T0 := 4229135) [1] (ι := {k : Nat // k ≤ 128 ∧ p.bits ≤ k ∧ ∀ i : Nat, p.bits ≤ i → i < k → bitI p.ip i = 0})
      (fun k => [(3, int (k.1 : Int))]) (fun _ => [.cells (pfxV p)]) (fun k => 128 - k.1) ⟨p.bits.toNat, by omega, by omega, fun i h1 h2 => by omega⟩ ?_
    conv => whnf
    repeat' (first | ((first | (with_reducible apply Same.rfl) | (apply Same.int; focus (dsimp only; omega)) | (with_reducible apply Frz.l)) <;> conv => whnf) | fail)
    rintro ⟨k, hk, hb2, he⟩
    dsimp only
    conv => whnf
    repeat' (first | ((first | ((with_reducible apply Wr.i64); focus omega) | (apply CallN.mk (k_bit _ k (by omega))) | ((with_reducible first | apply Bif.dec | apply Bif.bne) <;> intro h <;> (try simp only [lns] at h)) | (with_reducible apply Frz.l)) <;> conv => whnf) | fail)
    · apply Same.bool (by
        symm
        rw [← Bool.not_eq_true, vPfx_bits hb]
        exact fun g => h (g k hb2 (by omega)))
      conv => whnf
      repeat' (first | with_reducible apply True.intro | ((with_reducible apply Frz.l) <;> conv => whnf) | fail)
    · (refine ⟨⟨k + 1, by omega, by omega, fun i h1 h2 => by rcases Nat.lt_or_ge i k with h3 | h3; exact he i h1 h3; rw [show i = k by omega]; exact h⟩, ?_⟩; (try dsimp only); conv => whnf); repeat' (first | with_reducible apply True.intro | ((first | ((with_reducible apply Need.mk); focus omega) | (with_reducible apply Same.rfl) | (apply Same.int; focus rfl) | (with_reducible apply Turn.l) | (with_reducible apply Frz.l)) <;> conv => whnf) | fail)
    · apply Same.bool (by symm; rw [vPfx_bits hb]; exact fun i h1 h2 => he i h1 (by omega))
      conv => whnf
      repeat' (first | with_reducible apply True.intro | ((with_reducible apply Frz.l) <;> conv => whnf) | fail)
  · rw [vPfx_out hb]
    refine spec_of_run ttok mixed (T0 := 4229135) (ts := [.tmp 2]) 23 rfl rfl rfl rfl (by simp) rfl ?_
    conv => whnf
    repeat' (first | with_reducible apply True.intro | ((first | (with_reducible first | apply Bif.T | apply Bif.F) | ((with_reducible apply Bif.dec) <;> intro h <;> (try simp only [lns] at h) <;> (try (exfalso; omega))) | (apply Same.bool; focus (with_reducible rfl)) | (with_reducible apply Frz.l)) <;> conv => whnf) | fail)
end Go.Fw

/- Addresses of a prefix: octets.Append of eight bytes, address.Join. -/
namespace Go.Fw
open Go.Proofs
set_option maxHeartbeats 4000000
set_option maxRecDepth 4000
abbrev o8 (x : Int) : SV := .v (.int .u8 x)
/-- The first k bytes of a number. -/
def be8 (v : Int) (k : Nat) : List Int := (List.range 8).map fun i => if i < k then v / 2 ^ (8 * (7 - i)) % 256 else 0
theorem be8_len (v : Int) (k : Nat) : (be8 v k).length = 8 := by simp [be8]
theorem be8_zero (v : Int) : be8 v 0 = List.replicate 8 0 := rfl
theorem be8_succ {v : Int} {k : Nat} (hk : k < 8) : (be8 v k).set k (v / 2 ^ (8 * (7 - k)) % 256) = be8 v (k + 1) := by
  apply List.ext_getElem?
  intro i
  rw [List.getElem?_set]
  simp only [be8, List.length_map, List.length_range, List.getElem?_map]
  by_cases hi : k = i
  · subst hi
    simp [hk]
  · rw [if_neg hi]
    by_cases h16 : i < 8
    · rw [List.getElem?_range h16]
      simp only [Option.map_some]
      congr 1
      by_cases h1 : i < k
      · rw [if_pos h1, if_pos (by omega)]
      · rw [if_neg h1, if_neg (by omega)]
    · rw [List.getElem?_eq_none (by simpa using h16)]; rfl
theorem wrap8 (x : Int) : IntKind.wrap .u8 x = x % 256 := by
  simp [IntKind.wrap, IntKind.bits, IntKind.signed]
theorem shr8 (v : Int) {k : Nat} (hk : k < 8) : IntKind.wrap .u8 (v.fdiv (2 ^ min (8 * (8 - 1 - (k : Int))).toNat IntKind.u64.bits)) = v / 2 ^ (8 * (7 - k)) % 256 := by
  have e : min (8 * (8 - 1 - (k : Int))).toNat IntKind.u64.bits = 8 * (7 - k) := by
    show min _ 64 = _
    omega
  rw [e, wrap8, Int.fdiv_eq_ediv_of_nonneg _ (Int.le_of_lt (Int.pow_pos (by decide)))]
theorem setB8 {v : Int} {k : Nat} (hk : k < 8) : lst o8 ((be8 v k).set (((0 : Nat) : Int) + (k : Int)).toNat (v / 2 ^ (8 * (7 - k)) % 256)) = lst o8 (be8 v (k + 1)) := by
  rw [← be8_succ hk, show (((0 : Nat) : Int) + (k : Int)).toNat = k by omega]
theorem k_Append8 (v : Int) (hv : 0 ≤ v ∧ v < 18446744073709551616) : Con Tryz.prog 68 [.v (.slice none 0 0), .v (.int .u64 v), int 8] [] (.ov 1 0 0 8) [.arr (some 8) 1 (lst o8 (be8 v 8))] := by
  refine spec_of_run ttok mixed (T0 := 58737095) (ts := [.tmp 6]) 43 rfl rfl rfl rfl (by simp) rfl ?_
  conv => whnf
  repeat' (first | ((with_reducible apply Need.mk); (focus (refine ⟨?_, ?_, ?_⟩ <;> first | decide | (unfold roomOK; decide) | fail)); (conv => whnf)) | ((first | (with_reducible apply Nm.rep _ (rfl)) | ((with_reducible apply Nm.mk); focus ((try simp only [lns, be8_len]); exact rfl)) | ((with_reducible apply Wr.i64); focus omega) | ((with_reducible apply Need.mk); focus (simp only [lns, be8_len]; omega)) | (with_reducible apply Bif.F) | ((with_reducible apply Bif.dec) <;> intro h <;> (try simp only [lns, be8_len] at h) <;> (try (exfalso; omega))) | (with_reducible apply Frz.l)) <;> conv => whnf) | fail)
  refine loop_keep ttok mixed (T0 := 58737095) [0, 1, 2, 23] (ι := {k : Nat // k ≤ 8})
    (fun k => [(7, .ov 1 0 0 8), (24, int (k.1 : Int))]) (fun k => [.arr (some 8) 1 (lst o8 (be8 v k.1))]) (fun k => 8 - k.1) ⟨0, by omega⟩ ?_
  conv => whnf
  repeat' (first | ((first | (with_reducible apply Same.rfl) | (apply Same.int; focus rfl) | (apply Same.ov; (focus rfl); focus rfl) | ((with_reducible apply Same.mk); focus omega) | (apply Same.rfl) | (with_reducible apply Frz.l)) <;> conv => whnf) | fail)
  rintro ⟨k, hk⟩
  dsimp only
  conv => whnf
  repeat' (first | ((apply Wr.eq (shr8 v (k := k) (by omega))); (conv => whnf)) | ((first | (with_reducible apply Nm.set _ (rfl)) | ((with_reducible apply Nm.mk); focus ((try simp only [lns, be8_len]); exact rfl)) | ((with_reducible apply Wr.i64); focus omega) | ((with_reducible apply Need.mk); focus omega) | ((with_reducible apply Elem.lst); focus (simp only [lns, be8_len]; omega)) | ((with_reducible apply Bif.dec) <;> intro h <;> (try simp only [lns, be8_len] at h)) | (with_reducible apply Same.rfl) | (with_reducible apply Frz.l)) <;> conv => whnf) | fail)
  · (refine ⟨⟨k + 1, by omega⟩, ?_⟩; (try dsimp only); conv => whnf); repeat' (first | with_reducible apply True.intro | ((apply Same.mk (setB8 (by omega))); (conv => whnf)) | ((first | ((with_reducible apply Need.mk); focus omega) | (with_reducible apply Same.rfl) | (apply Same.int; focus rfl) | (with_reducible apply Turn.l) | (with_reducible apply Frz.l)) <;> conv => whnf) | fail)
  · have e : k = 8 := by omega
    subst e
    repeat' (first | with_reducible apply True.intro | ((first | (with_reducible apply Same.rfl) | (with_reducible apply Frz.l)) <;> conv => whnf) | fail)
theorem be8_byt (v : Int) (k : Nat) : ∀ x ∈ be8 v k, 0 ≤ x ∧ x ≤ 255 := fun x hx => by
  obtain ⟨i, _, rfl⟩ := List.mem_map.1 hx
  split
  · omega
  · omega
/-- The first 64 bits of an address, and a number. -/
def ipJ (a : IP) (v : Int) : IP := ⟨a.1.take 8 ++ be8 v 8, by simp [be8_len, a.2.1], fun x hx => by
  rcases List.mem_append.1 hx with h | h
  · exact a.2.2 x (List.mem_of_mem_take h)
  · exact be8_byt v 8 x h⟩
theorem ipJ_copy (a : IP) (v : Int) : SV.ba 16 (a.1.take (Int.toNat 8) ++ (be8 v 8).take (16 - Int.toNat 8) ++ a.1.drop (Int.toNat 8 + min (16 - Int.toNat 8) 8)) = ipV (ipJ a v) := by
  have e1 : (be8 v 8).take 8 = be8 v 8 := List.take_of_length_le (by rw [be8_len]; omega)
  have e2 : a.1.drop 16 = [] := List.drop_eq_nil_of_le (by rw [a.2.1]; omega)
  show SV.ba 16 (a.1.take 8 ++ (be8 v 8).take 8 ++ a.1.drop 16) = SV.ba 16 (a.1.take 8 ++ be8 v 8)
  rw [e1, e2, List.append_nil]
theorem k_aJoin (p : Pfx) (v : Int) (hp : vPfx p = true) (hb : p.bits ≤ 64) (hv : 0 ≤ v ∧ v < 18446744073709551616) : Con Tryz.prog 45 [pfxV p, .v (.int .u64 v)] [] (.tup [ipV (ipJ p.ip v), bool true]) [] := by
  have c1 := k_ValidPrefix p
  have c2 := k_Append8 v hv
  rw [hp] at c1
  refine spec_of_run ttok mixed (T0 := 16503) (ts := [.cell 4 32, .tmp 5]) 23 rfl rfl rfl rfl (by simp) rfl ?_
  conv => whnf
  repeat' (first | with_reducible apply True.intro | ((apply Byt.mk (be8 v 8) rfl); (conv => whnf)) | ((apply Same.mk (ipJ_copy _ _)); (conv => whnf)) | ((first | ((with_reducible apply Nm.mk); focus ((try simp only [lns, be8_len]); exact rfl)) | ((with_reducible apply Need.mk); focus first | omega | (simp only [lns, be8_len]; omega) | kernel_rfl) | (apply CallN.mk (c1)) | (apply CallN.mk (c2)) | (with_reducible first | apply Bif.T | apply Bif.F) | ((with_reducible apply Bif.dec) <;> intro h <;> (try simp only [lns, be8_len] at h) <;> (try (exfalso; omega))) | (with_reducible apply Bif.not) | (apply Same.bool; focus (with_reducible rfl)) | (with_reducible apply Frz.l)) <;> conv => whnf) | fail)
end Go.Fw
