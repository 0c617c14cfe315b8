/- siphash: what it computes (its numbers are as they come), Tag, Verify. -/
import Derived.Test.YtlkhjalnnciocaaGreatTopD
namespace Go.Fw
open Go.Proofs
set_option maxHeartbeats 8000000
set_option maxRecDepth 8000
/-- Bytes in an array. -/
def toI (l : List UInt8) : List Int := l.map fun u => (u.toNat : Int)
theorem toI_len (l : List UInt8) : (toI l).length = l.length := by simp [toI]
theorem toI_rows (l : List UInt8) : bytesRows (toI l) = lst b8 l := by simp [bytesRows, toI, lst, b8]
def keyV (k : List UInt8) : SV := .ba 16 (toI k)
theorem rows_lo {k : List UInt8} : ((bytesRows (toI k)).drop 0).take 8 = lst b8 (k.take 8) := by rw [toI_rows, List.drop_zero, lst_take]
theorem rows_hi {k : List UInt8} (h : k.length = 16) : ((bytesRows (toI k)).drop 8).take 8 = lst b8 (k.drop 8) := by rw [toI_rows, lst_drop, lst_take, List.take_of_length_le (by simp; omega)]
abbrev q64 (x : Int) : SV := .v (.int .u64 x)
def ad (a b : Int) : Int := IntKind.wrap .u64 (a + b)
def xr (a b : Int) : Int := IntKind.wrap .u64 ((BitVec.ofInt (IntKind.bits .u64) a ^^^ BitVec.ofInt (IntKind.bits .u64) b).toNat)
def orB (a b : Int) : Int := IntKind.wrap .u64 ((BitVec.ofInt (IntKind.bits .u64) a ||| BitVec.ofInt (IntKind.bits .u64) b).toNat)
def rotI (x : Int) (k : Nat) : Int := orB (IntKind.wrap .u64 (x * 2 ^ k)) (x.fdiv (2 ^ (64 - k)))
theorem k_Rot (x : Int) (k : Nat) (h : k = 13 ∨ k = 32 ∨ k = 16 ∨ k = 21 ∨ k = 17) : Con Tryz.prog 208 [q64 x, int (k : Int)] [] (q64 (rotI x k)) [] := by
  rcases h with rfl | rfl | rfl | rfl | rfl
  all_goals
    refine spec_of_run ttok mixed (T0 := 51) (ts := [.tmp 4]) 17 rfl rfl rfl rfl (by simp) rfl ?_
    conv => whnf
    repeat' (first | with_reducible apply True.intro | ((with_reducible apply Wr.u64); (focus omega); (conv => whnf)) | ((with_reducible apply Wr.u64); (focus decide); (conv => whnf)) | ((apply Wr.mk); (conv => whnf)) | ((apply Need.mk (by decide)); (conv => whnf)) | ((apply Same.mk rfl); (conv => whnf)) | ((with_reducible apply Frz.l) <;> conv => whnf) | fail)
structure S4 where
  a : Int
  b : Int
  c : Int
  d : Int
def s4V (s : S4) : SV := .agg [q64 s.a, q64 s.b, q64 s.c, q64 s.d]
def rnd (s : S4) : S4 :=
  let a := ad s.a s.b
  let b := xr (rotI s.b 13) a
  let a := rotI a 32
  let c := ad s.c s.d
  let d := xr (rotI s.d 16) c
  let a := ad a d
  let d := xr (rotI d 21) a
  let c := ad c b
  let b := xr (rotI b 17) c
  let c := rotI c 32
  ⟨a, b, c, d⟩
def rnds : Nat → S4 → S4
  | 0, s => s
  | n + 1, s => rnds n (rnd s)
theorem rnds_snoc : ∀ (n : Nat) (s : S4), rnds (n + 1) s = rnd (rnds n s)
  | 0, _ => rfl
  | n + 1, s => by rw [rnds, rnds_snoc]; rfl
theorem k_rounds (s : S4) (n : Nat) (hn : n ≤ 100) : Con Tryz.prog 181 [s4V s, int (n : Int)] [] (s4V (rnds n s)) [] := by
  refine spec_of_run ttok mixed (T0 := 247) (ts := [.cell 4 285]) 82 rfl rfl rfl rfl (by simp) rfl ?_
  conv => whnf
  repeat' (first | ((with_reducible apply Frz.l) <;> conv => whnf) | fail)
  refine loop_keep ttok mixed (T0 := 247) [5] (ι := {k : Nat // k ≤ n})
    (fun k => [(6, int (k.1 : Int)), (2, .pb 0 []), (4, .pb 1 [])]) (fun k => [.cells (s4V (rnds k.1 s)), .cells (s4V ⟨0, 0, 0, 0⟩)]) (fun k => n - k.1) ⟨0, by omega⟩ ?_
  conv => whnf
  repeat' (first | ((apply Same.mk rfl); (conv => whnf)) | ((with_reducible apply Frz.l) <;> conv => whnf) | fail)
  rintro ⟨k, hk⟩
  dsimp only
  conv => whnf
  by_cases hkn : k < n
  · repeat' (first | ((apply Elem.mk _ rfl); (conv => whnf)) | ((with_reducible apply Wr.i64); (focus omega); (conv => whnf)) | ((apply Wr.mk); (conv => whnf)) | ((apply Need.mk rfl); (conv => whnf)) | ((first | ((with_reducible apply Nm.mk); focus ((try simp only [lns]); exact rfl)) | ((with_reducible apply Need.mk); focus omega) | (apply CallN.mk (k_Rot _ 13 (by decide))) | (apply CallN.mk (k_Rot _ 32 (by decide))) | (apply CallN.mk (k_Rot _ 16 (by decide))) | (apply CallN.mk (k_Rot _ 21 (by decide))) | (apply CallN.mk (k_Rot _ 17 (by decide))) | ((with_reducible apply Bif.dec) <;> intro h <;> (try simp only [lns] at h) <;> (try (exfalso; omega))) | (with_reducible apply Frz.l)) <;> conv => whnf) | fail)
    (refine ⟨⟨k + 1, by omega⟩, ?_⟩; (try dsimp only); conv => whnf); repeat' (first | with_reducible apply True.intro | ((apply Same.mk (by rw [rnds_snoc]; simp only [Int.reduceToNat, List.set_cons_zero, List.set_cons_succ]; rfl)); (conv => whnf)) | ((first | ((with_reducible apply Need.mk); focus omega) | (with_reducible apply Same.rfl) | (apply Same.int; focus rfl) | (with_reducible apply Turn.l) | (with_reducible apply Frz.l)) <;> conv => whnf) | fail)
  · obtain rfl : k = n := by omega
    repeat' (first | with_reducible apply True.intro | ((apply Same.mk rfl); (conv => whnf)) | ((first | ((with_reducible apply Bif.dec) <;> intro h <;> (try simp only [lns] at h) <;> (try (exfalso; omega))) | (with_reducible apply Frz.l)) <;> conv => whnf) | fail)
def mixS (s : S4) (m : Int) : S4 := let t := rnds 2 ⟨s.a, s.b, s.c, xr s.d m⟩; ⟨xr t.a m, t.b, t.c, t.d⟩
theorem k_mix (s : S4) (m : Int) : Con Tryz.prog 180 [s4V s, q64 m] [] (s4V (mixS s m)) [] := by
  have c := k_rounds ⟨s.a, s.b, s.c, xr s.d m⟩ 2 (by decide)
  obtain ⟨t, ht⟩ : ∃ t, t = rnds 2 ⟨s.a, s.b, s.c, xr s.d m⟩ := ⟨_, rfl⟩
  have e : mixS s m = ⟨xr t.a m, t.b, t.c, t.d⟩ := by rw [mixS, ← ht]
  rw [e]
  rw [← ht] at c
  refine spec_of_run ttok mixed (T0 := 23) (ts := [.cell 4 285]) 18 rfl rfl rfl rfl (by simp) rfl ?_
  conv => whnf
  repeat' (first | with_reducible apply True.intro | ((apply Elem.mk _ rfl); (conv => whnf)) | ((apply Need.mk rfl); (conv => whnf)) | ((apply Same.mk (by simp only [Int.reduceToNat, List.set_cons_zero, List.set_cons_succ]; rfl)); (conv => whnf)) | ((first | ((with_reducible apply Nm.mk); focus ((try simp only [lns]); exact rfl)) | ((with_reducible apply Need.mk); focus omega) | (apply CallN.mk (c)) | (with_reducible apply Same.rfl) | (with_reducible apply Frz.l)) <;> conv => whnf) | fail)
/-- The number of at most eight bytes, the least significant one first: what is computed. -/
def litA : Int → List UInt8 → Nat → Int
  | n, [], _ => n
  | n, c :: r, i => litA (orB n (IntKind.wrap .u64 (IntKind.wrap .u64 (c.toNat : Int) * 2 ^ min (8 * (i : Int)).toNat (IntKind.bits .u64)))) r (i + 1)
theorem k_little (b : List UInt8) (t : Tg) (hb : b.length ≤ 1000000) : Con Tryz.prog 179 [.fs t 1 (lst b8 b)] [] (q64 (litA 0 b 0)) [] := by
  refine spec_of_run ttok mixed (T0 := 1021) (ts := [.tmp 2]) 22 rfl rfl rfl rfl (by simp) rfl ?_
  conv => whnf
  repeat' (first | ((first | ((with_reducible apply Nm.mk); focus ((try simp only [lns]); exact rfl)) | (with_reducible apply Frz.l)) <;> conv => whnf) | fail)
  refine loop_keep ttok mixed (T0 := 1021) [6, 7] (ι := {p : Int × Nat // p.2 ≤ b.length ∧ litA p.1 (b.drop p.2) p.2 = litA 0 b 0})
    (fun p => [(3, q64 p.1.1), (8, int (p.1.2 : Int))]) (fun _ => []) (fun p => b.length - p.1.2) ⟨(0, 0), by simp, by simp⟩ ?_
  conv => whnf
  repeat' (first | ((first | (with_reducible apply Same.rfl) | (apply Same.int; focus rfl) | (with_reducible apply Frz.l)) <;> conv => whnf) | fail)
  rintro ⟨⟨v, k⟩, hk, he⟩
  dsimp only at hk he ⊢
  conv => whnf
  by_cases hkn : k < b.length
  · rw [drop_gt hkn, litA] at he
    repeat' (first | ((with_reducible apply Wr.i64); (focus omega); (conv => whnf)) | ((apply Wr.mk); (conv => whnf)) | ((first | ((with_reducible apply Nm.mk); focus ((try simp only [lns]); exact rfl)) | ((with_reducible apply Need.mk); focus first | omega | (simp only [lns]; omega)) | ((with_reducible apply Elem.lst); focus omega) | ((with_reducible apply Bif.dec) <;> intro h <;> (try simp only [lns] at h) <;> (try (exfalso; omega))) | (with_reducible apply Frz.l)) <;> conv => whnf) | fail)
    (refine ⟨⟨(_, k + 1), hkn, he⟩, ?_⟩; (try dsimp only); conv => whnf); repeat' (first | with_reducible apply True.intro | ((apply Same.mk rfl); (conv => whnf)) | ((first | ((with_reducible apply Need.mk); focus omega) | (with_reducible apply Turn.l) | (with_reducible apply Frz.l)) <;> conv => whnf) | fail)
  · rw [List.drop_eq_nil_of_le (by omega), litA] at he
    subst he
    repeat' (first | with_reducible apply True.intro | ((first | ((with_reducible apply Bif.dec) <;> intro h <;> (try simp only [lns] at h) <;> (try (exfalso; omega))) | (with_reducible apply Same.rfl) | (with_reducible apply Frz.l)) <;> conv => whnf) | fail)
end Go.Fw
