/- Prefixes, destinations, distances, as plain data; masks. -/
import Derived.Test.YtlkhjalnnciocaaGreatTopP
namespace Go.Fw
set_option maxRecDepth 4000
open Go.Proofs
structure Pfx where
  ip : IP
  bits : Int
  deriving DecidableEq, Inhabited
def pfxV (p : Pfx) : SV := .agg [ipV p.ip, .v (.int .i64 p.bits)]
theorem pfx_mk (a : IP) (b : Int) : SV.agg [ipV a, .v (.int .i64 b)] = pfxV ⟨a, b⟩ := rfl
def pfx0 : Pfx := ⟨ip0, 0⟩
structure Dst where
  dst : Pfx
  src : Pfx
  router : Int
  deriving DecidableEq, Inhabited
def dstV (t : Dst) : SV := .agg [pfxV t.dst, pfxV t.src, .v (.int .u64 t.router)]
theorem dst_mk (a b : Pfx) (r : Int) : SV.agg [pfxV a, pfxV b, .v (.int .u64 r)] = dstV ⟨a, b, r⟩ := rfl
structure Dis where
  seq : Int
  metric : Int
  deriving DecidableEq, Inhabited
def disV (d : Dis) : SV := .agg [.v (.int .u16 d.seq), .v (.int .i64 d.metric)]
theorem dis_mk (a b : Int) : SV.agg [.v (.int .u16 a), .v (.int .i64 b)] = disV ⟨a, b⟩ := rfl
theorem pfx_ext {a b : Pfx} (h1 : a.ip = b.ip) (h2 : a.bits = b.bits) : a = b := by cases a; cases b; simp_all
theorem dst_ext {a b : Dst} (h1 : a.dst = b.dst) (h2 : a.src = b.src) (h3 : a.router = b.router) : a = b := by cases a; cases b; simp_all
theorem dis_ext {a b : Dis} (h1 : a.seq = b.seq) (h2 : a.metric = b.metric) : a = b := by cases a; cases b; simp_all
theorem pfx_eq (a b : Pfx) : (a.ip.1 == b.ip.1 && (a.bits == b.bits && true)) = decide (a = b) := by
  rw [Bool.eq_iff_iff]
  simp only [Bool.and_eq_true, beq_iff_eq, decide_eq_true_eq, and_true]
  exact ⟨fun ⟨h1, h2⟩ => pfx_ext (ip_ext h1) h2, fun h => by subst h; simp⟩
theorem dst_eq (a b : Dst) : ((a.dst.ip.1 == b.dst.ip.1 && (a.dst.bits == b.dst.bits && true)) && ((a.src.ip.1 == b.src.ip.1 && (a.src.bits == b.src.bits && true)) && (a.router == b.router && true))) = decide (a = b) := by
  rw [pfx_eq, pfx_eq, Bool.eq_iff_iff]
  simp only [Bool.and_eq_true, beq_iff_eq, decide_eq_true_eq, and_true]
  exact ⟨fun ⟨h1, h2, h3⟩ => dst_ext h1 h2 h3, fun h => by subst h; simp⟩
theorem dis_eq (a b : Dis) : (a.seq == b.seq && (a.metric == b.metric && true)) = decide (a = b) := by
  rw [Bool.eq_iff_iff]
  simp only [Bool.and_eq_true, beq_iff_eq, decide_eq_true_eq, and_true]
  exact ⟨fun ⟨h1, h2⟩ => dis_ext h1 h2, fun h => by subst h; simp⟩
/-! ### Masks -/
/-- How many of the first so many bits lie in byte i. -/
def keepN (bits i : Int) : Int := min (max (bits - 8 * i) 0) 8
/-- The first k bits of a byte. -/
def cutB (x k : Int) : Int := x - x % 2 ^ (8 - k.toNat)
def maskL (l : List Int) (bits : Int) : List Int := (List.range 16).map fun i => cutB (gt l i) (keepN bits i)
theorem keepN_range (b i : Int) : 0 ≤ keepN b i ∧ keepN b i ≤ 8 := by unfold keepN; omega
theorem fin_ex {x n : Int} (h : 0 ≤ x ∧ x < n) : ∃ y : Fin n.toNat, x = (y.1 : Int) := ⟨⟨x.toNat, by omega⟩, by simp; omega⟩
theorem cutB_all : ∀ (x : Fin 256) (k : Fin 9), 0 ≤ cutB (x.1 : Int) (k.1 : Int) ∧ cutB (x.1 : Int) (k.1 : Int) ≤ 255 ∧
    IntKind.wrap .u8 ((BitVec.ofInt 8 (x.1 : Int) &&& ~~~ BitVec.ofInt 8 (Int.fdiv 255 (2 ^ (min k.1 8)))).toNat) = cutB (x.1 : Int) (k.1 : Int) := by decide +kernel
theorem cutB_range {x k : Int} (hx : 0 ≤ x ∧ x ≤ 255) (hk : 0 ≤ k ∧ k ≤ 8) : 0 ≤ cutB x k ∧ cutB x k ≤ 255 := by
  obtain ⟨y, rfl⟩ := fin_ex (n := 256) (x := x) (by omega)
  obtain ⟨z, rfl⟩ := fin_ex (n := 9) (x := k) (by omega)
  have := cutB_all y z
  exact ⟨this.1, this.2.1⟩
theorem cutB_is {x k : Int} (hx : 0 ≤ x ∧ x ≤ 255) (hk : 0 ≤ k ∧ k ≤ 8) : IntKind.wrap .u8 ((BitVec.ofInt 8 x &&& ~~~ BitVec.ofInt 8 (Int.fdiv 255 (2 ^ (min k.toNat 8)))).toNat) = cutB x k := by
  obtain ⟨y, rfl⟩ := fin_ex (n := 256) (x := x) (by omega)
  obtain ⟨z, rfl⟩ := fin_ex (n := 9) (x := k) (by omega)
  exact (cutB_all y z).2.2
theorem maskL_len (l : List Int) (b : Int) : (maskL l b).length = 16 := by simp [maskL]
theorem gt_maskL {l : List Int} {b : Int} {i : Nat} (hi : i < 16) : gt (maskL l b) i = cutB (gt l i) (keepN b i) := by
  rw [gt_eq (by rw [maskL_len]; exact hi)]
  simp [maskL]
theorem byte_gt {a : IP} {i : Nat} (hi : i < 16) : 0 ≤ gt a.1 i ∧ gt a.1 i ≤ 255 := a.2.2 _ (gt_mem (by rw [a.2.1]; exact hi))
theorem maskL_ok (a : IP) (b : Int) : (maskL a.1 b).length = 16 ∧ ∀ x ∈ maskL a.1 b, 0 ≤ x ∧ x ≤ 255 := by
  refine ⟨maskL_len _ _, fun x hx => ?_⟩
  simp only [maskL, List.mem_map, List.mem_range] at hx
  obtain ⟨i, hi, rfl⟩ := hx
  exact cutB_range (byte_gt hi) (keepN_range _ _)
def maskI (a : IP) (b : Int) : IP := ⟨maskL a.1 b, maskL_ok a b⟩
/-- address.Mask -/
def maskP (a : IP) (b : Int) : Pfx := ⟨maskI a (min (max b 0) 128), min (max b 0) 128⟩
def vPfx (p : Pfx) : Bool := decide (0 ≤ p.bits ∧ p.bits ≤ 128 ∧ maskI p.ip p.bits = p.ip)
/-- The bits of a byte, from the greatest. -/
theorem bits_all : ∀ (x : Fin 256) (k : Fin 9), (∀ r : Fin 8, k.1 ≤ r.1 → ((x.1 : Int).fdiv (2 ^ (7 - r.1)) % 2 = 0)) ↔ cutB (x.1 : Int) (k.1 : Int) = (x.1 : Int) := by decide +kernel
theorem bits_cut {x k : Int} (hx : 0 ≤ x ∧ x ≤ 255) (hk : 0 ≤ k ∧ k ≤ 8) : (∀ r : Nat, r < 8 → k ≤ r → x.fdiv (2 ^ (7 - r)) % 2 = 0) ↔ cutB x k = x := by
  obtain ⟨y, rfl⟩ := fin_ex (n := 256) (x := x) (by omega)
  obtain ⟨z, rfl⟩ := fin_ex (n := 9) (x := k) (by omega)
  rw [← bits_all]
  exact ⟨fun h r hr => h r.1 r.2 (by omega), fun h r hr hk => h ⟨r, hr⟩ (by simp; omega)⟩
/-- The bit i of an address. -/
def bitI (a : IP) (i : Nat) : Int := (gt a.1 (i / 8)).fdiv (2 ^ (7 - i % 8)) % 2
theorem vPfx_bits {p : Pfx} (h : 0 ≤ p.bits ∧ p.bits ≤ 128) : vPfx p = true ↔ ∀ i : Nat, p.bits ≤ i → i < 128 → bitI p.ip i = 0 := by
  rw [vPfx, decide_eq_true_eq]
  have key : maskI p.ip p.bits = p.ip ↔ ∀ j : Nat, j < 16 → cutB (gt p.ip.1 j) (keepN p.bits j) = gt p.ip.1 j := by
    constructor
    · intro e j hj
      have := congrArg (fun q : IP => gt q.1 j) e
      rwa [show gt (maskI p.ip p.bits).1 j = _ from gt_maskL hj] at this
    · intro e
      apply ip_ext
      have l1 : (maskI p.ip p.bits).1.length = 16 := maskL_len _ _
      have l2 := p.ip.2.1
      exact ext_gt (by omega) fun i hi => by
        rw [show gt (maskI p.ip p.bits).1 i = _ from gt_maskL (by omega)]
        exact e i (by omega)
  rw [key]
  constructor
  · rintro ⟨_, _, e⟩ i h1 h2
    exact (bits_cut (byte_gt (i := i / 8) (by omega)) (keepN_range p.bits ((i / 8 : Nat) : Int))).2 (e (i / 8) (by omega)) (i % 8) (by omega) (by unfold keepN; omega)
  · intro e
    refine ⟨h.1, h.2, fun j hj => ?_⟩
    refine (bits_cut (byte_gt hj) (keepN_range _ _)).1 fun r hr hk => ?_
    have := e (8 * j + r) (by unfold keepN at hk; omega) (by omega)
    simp only [bitI] at this
    rwa [show (8 * j + r) / 8 = j by omega, show (8 * j + r) % 8 = r by omega] at this
end Go.Fw
