/- Packets: the checksum, whatever it is. -/
import Derived.Test.YtlkhjalnnciocaaGreatTopU
namespace Go.Fw
open Go.Proofs
set_option maxHeartbeats 8000000
set_option maxRecDepth 8000
def w64 (x : Int) : Nat := (x % 18446744073709551616).toNat
theorem wrapU (x : Int) : IntKind.wrap .u64 x = ((w64 x : Nat) : Int) := by
  have : IntKind.wrap .u64 x = x % 18446744073709551616 := by simp [IntKind.wrap, IntKind.bits, IntKind.signed]
  rw [this, w64]; omega
theorem w64_lt (x : Int) : w64 x < 18446744073709551616 := by unfold w64; omega
theorem k_fold (n : Nat) (hn : n < 18446744073709551616) : ∃ r hp', (∃ v : Nat, r = .v (.int .u16 (v : Int)) ∧ hp' = [] ∧ v ≤ 65535) ∧ Con Tryz.prog 187 [q64 (n : Int)] [] r hp' := by
  refine spec_of_runR ttok mixed (T0 := 21) (ts := [.tmp 2]) 12 rfl rfl rfl rfl (by simp) rfl ?_
  conv => whnf
  repeat' (first | ((with_reducible apply Frz.l) <;> conv => whnf) | fail)
  refine loop_keep ttok mixed (T0 := 21) [] (ι := {k : Nat // k < 18446744073709551616})
    (fun k => [(0, q64 (k.1 : Int))]) (fun _ => []) (fun k => k.1) ⟨n, hn⟩ ?_
  conv => whnf
  repeat' (first | ((first | (with_reducible apply Same.rfl) | (with_reducible apply Frz.l)) <;> conv => whnf) | fail)
  rintro ⟨k, hk⟩
  dsimp only
  conv => whnf
  have e1 : (k : Int).tmod 65536 = ((k % 65536 : Nat) : Int) := by rw [Int.tmod_eq_emod_of_nonneg (by omega)]; omega
  have e2 : IntKind.wrap .u64 ((k : Int).tdiv 65536) = ((k / 65536 : Nat) : Int) := by
    rw [Int.tdiv_eq_ediv_of_nonneg (by omega)]
    simp [IntKind.wrap, IntKind.bits, IntKind.signed]; omega
  have e3 : IntKind.wrap .u64 ((k : Int).tmod 65536 + ((k / 65536 : Nat) : Int)) = ((k % 65536 + k / 65536 : Nat) : Int) := by
    rw [e1]; simp [IntKind.wrap, IntKind.bits, IntKind.signed]; omega
  repeat' (first | ((apply Wr.eq e2); (conv => whnf)) | ((apply Wr.eq e3); (conv => whnf)) | ((first | ((with_reducible apply Wr.u16); focus omega) | ((with_reducible apply Need.mk); focus omega) | ((with_reducible apply Bif.dec) <;> intro h <;> (try simp only [lns] at h)) | (with_reducible apply Frz.l)) <;> conv => whnf) | fail)
  · (refine ⟨⟨k % 65536 + k / 65536, by omega⟩, ?_⟩; (try dsimp only); conv => whnf); repeat' (first | with_reducible apply True.intro | ((first | ((with_reducible apply Need.mk); focus omega) | (with_reducible apply Same.rfl) | (with_reducible apply Turn.l) | (with_reducible apply Frz.l)) <;> conv => whnf) | fail)
  · (refine ⟨_, _, ⟨k, rfl, rfl, by omega⟩, ?_⟩; conv => whnf); repeat' (first | with_reducible apply True.intro | ((first | (with_reducible apply Same.rfl) | (with_reducible apply Frz.l)) <;> conv => whnf) | fail)
theorem k_total (L : List (List UInt8)) (hL : L.length ≤ 100) (hl : ∀ l ∈ L, l.length ≤ 100000) : ∃ r hp', (∃ v : Nat, r = q64 (v : Int) ∧ hp' = [] ∧ v < 18446744073709551616) ∧ Con Tryz.prog 188 [.fs .no 1 (lst bys L)] [] r hp' := by
  refine spec_of_runR ttok mixed (T0 := 2596701) (ts := [.tmp 2]) 36 rfl rfl rfl rfl (by simp) rfl ?_
  conv => whnf
  repeat' (first | ((first | ((with_reducible apply Nm.mk); focus ((try simp only [lns]); exact rfl)) | (with_reducible apply Frz.l)) <;> conv => whnf) | fail)
  refine loop_keep ttok mixed (T0 := 2596701) [9, 10] (ι := {p : Nat × Nat × Bool // p.1 ≤ L.length ∧ p.2.1 < 18446744073709551616})
    (fun p => [(11, int (p.1.1 : Int)), (3, q64 (p.1.2.1 : Int)), (4, bool p.1.2.2)]) (fun _ => []) (fun p => L.length - p.1.1) ⟨(0, 0, true), by simp, by simp⟩ ?_
  conv => whnf
  repeat' (first | ((first | (with_reducible apply Same.rfl) | (apply Same.int; focus rfl) | (apply Same.bool; focus (with_reducible rfl)) | (with_reducible apply Frz.l)) <;> conv => whnf) | fail)
  rintro ⟨⟨i, n, hi⟩, h1, h2⟩
  dsimp only at h1 h2 ⊢
  conv => whnf
  by_cases hin : i < L.length
  · have hlen := hl _ (gt_mem hin)
    repeat' (first | ((first | ((with_reducible apply Nm.mk); focus ((try simp only [lns]); exact rfl)) | ((with_reducible apply Need.mk); focus (simp only [lns]; omega)) | ((with_reducible apply Elem.lst); focus omega) | ((with_reducible apply Bif.dec) <;> intro h <;> (try simp only [lns] at h) <;> (try (exfalso; omega))) | (with_reducible apply Frz.l)) <;> conv => whnf) | fail)
    refine loop_keep ttok mixed (T0 := 2596701) [9, 10, 11, 15, 16] (ι := {p : Nat × Nat × Bool // p.1 ≤ (gt L i).length ∧ p.2.1 < 18446744073709551616})
      (fun p => [(17, int (p.1.1 : Int)), (3, q64 (p.1.2.1 : Int)), (4, bool p.1.2.2)]) (fun _ => []) (fun p => (gt L i).length - p.1.1) ⟨(0, n, hi), by simp, h2⟩ ?_
    conv => whnf
    repeat' (first | ((first | (with_reducible apply Same.rfl) | (apply Same.int; focus rfl) | (with_reducible apply Frz.l)) <;> conv => whnf) | fail)
    rintro ⟨⟨j, m, hj⟩, h3, h4⟩
    dsimp only at h3 h4 ⊢
    conv => whnf
    by_cases hjn : j < (gt L i).length
    · repeat' (first | ((with_reducible apply Wr.i64); (focus omega); (conv => whnf)) | ((apply Wr.eq (wrapU _)); (conv => whnf)) | ((first | ((with_reducible apply Nm.mk); focus ((try simp only [lns]); exact rfl)) | ((with_reducible apply Need.mk); focus first | omega | (simp only [lns]; omega)) | ((with_reducible apply Elem.lst); focus omega) | ((with_reducible apply Bif.dec) <;> intro h <;> (try simp only [lns] at h) <;> (try (exfalso; omega))) | ((with_reducible apply Bif.mk) <;> intro h) | (with_reducible apply Frz.l)) <;> conv => whnf) | fail)
      · (refine ⟨⟨(j + 1, w64 ((m : Int) + (w64 ((w64 ((gt (gt L i) j).toNat : Int) : Int) * 2 ^ min (Int.toNat 8) (IntKind.bits .u64)) : Int)), !hj), hjn, by dsimp only; exact w64_lt _⟩, ?_⟩; (try dsimp only); conv => whnf); repeat' (first | with_reducible apply True.intro | ((apply Same.mk rfl); (conv => whnf)) | ((first | ((with_reducible apply Need.mk); focus omega) | (with_reducible apply Turn.l) | (with_reducible apply Frz.l)) <;> conv => whnf) | fail)
      · (refine ⟨⟨(j + 1, w64 ((m : Int) + (w64 ((gt (gt L i) j).toNat : Int) : Int)), !hj), hjn, by dsimp only; exact w64_lt _⟩, ?_⟩; (try dsimp only); conv => whnf); repeat' (first | with_reducible apply True.intro | ((apply Same.mk rfl); (conv => whnf)) | ((first | ((with_reducible apply Need.mk); focus omega) | (with_reducible apply Turn.l) | (with_reducible apply Frz.l)) <;> conv => whnf) | fail)
    · repeat' (first | ((first | ((with_reducible apply Wr.i64); focus omega) | ((with_reducible apply Bif.dec) <;> intro h <;> (try simp only [lns] at h) <;> (try (exfalso; omega))) | (with_reducible apply Frz.l)) <;> conv => whnf) | fail)
      (refine ⟨⟨(i + 1, m, hj), hin, h4⟩, ?_⟩; (try dsimp only); conv => whnf); repeat' (first | with_reducible apply True.intro | ((first | ((with_reducible apply Need.mk); focus omega) | (with_reducible apply Same.rfl) | (apply Same.int; focus rfl) | (with_reducible apply Turn.l) | (with_reducible apply Frz.l)) <;> conv => whnf) | fail)
  · repeat' (first | ((first | ((with_reducible apply Bif.dec) <;> intro h <;> (try simp only [lns] at h) <;> (try (exfalso; omega))) | (with_reducible apply Frz.l)) <;> conv => whnf) | fail)
    (refine ⟨_, _, ⟨n, rfl, rfl, h2⟩, ?_⟩; conv => whnf); repeat' (first | with_reducible apply True.intro | ((first | (with_reducible apply Same.rfl) | (with_reducible apply Frz.l)) <;> conv => whnf) | fail)
theorem k_Internet (L : List (List UInt8)) (hL : L.length ≤ 100) (hl : ∀ l ∈ L, l.length ≤ 100000) : ∃ r hp', (∃ v : Nat, r = .v (.int .u16 (v : Int)) ∧ hp' = [] ∧ v ≤ 65535) ∧ Con Tryz.prog 135 [.fs .no 1 (lst bys L)] [] r hp' := by
  refine spec_of_runR ttok mixed (T0 := 5) (ts := [.tmp 2]) 7 rfl rfl rfl rfl (by simp) rfl ?_
  conv => whnf
  repeat' (first | ((first | ((with_reducible apply Wr.u16); focus omega) | (refine CallN.ex (k_total L hL hl) ?_; rintro _ _ ⟨v, rfl, rfl, hv⟩) | (refine CallN.ex (k_fold _ hv) ?_; rintro _ _ ⟨v2, rfl, rfl, hv2⟩) | (with_reducible apply Frz.l)) <;> conv => whnf) | fail)
  (refine ⟨_, _, ⟨65535 - v2, rfl, rfl, by omega⟩, ?_⟩; conv => whnf); repeat' (first | with_reducible apply True.intro | ((apply Same.mk (by congr 2; omega)); (conv => whnf)) | ((with_reducible apply Frz.l) <;> conv => whnf) | fail)
  done
def numV (v n : Nat) : SV := .agg [q64 (v : Int), int (n : Int)]
theorem k_numbers (b : List UInt8) (v1 n1 v2 n2 v3 n3 v4 n4 : Nat) (t t2 : Tg) (h1 : n1 ≤ 8) (h2 : n2 ≤ 8) (h3 : n3 ≤ 8) (h4 : n4 ≤ 8) (hb : b.length ≤ 10000) :
    Con Tryz.prog 203 [.fs t 1 (lst b8 b), .fs t2 2 [numV v1 n1, numV v2 n2, numV v3 n3, numV v4 n4]] []
      (.ov 1 0 0 ((b ++ beN n1 v1 ++ beN n2 v2 ++ beN n3 v3).length + n4)) [.arr (some ((b ++ beN n1 v1 ++ beN n2 v2 ++ beN n3 v3).length + n4)) 1 (lst b8 (b ++ beN n1 v1 ++ beN n2 v2 ++ beN n3 v3 ++ beN n4 v4))] := by
  have c1 := fun t => k_Append b v1 n1 t h1 (by omega)
  have c2 := fun t => k_Append (b ++ beN n1 v1) v2 n2 t h2 (by simp [beN_len]; omega)
  have c3 := fun t => k_Append (b ++ beN n1 v1 ++ beN n2 v2) v3 n3 t h3 (by simp [beN_len]; omega)
  have c4 := fun t => k_Append (b ++ beN n1 v1 ++ beN n2 v2 ++ beN n3 v3) v4 n4 t h4 (by simp [beN_len]; omega)
  refine spec_of_run ttok mixed (T0 := 2003) (ts := [.tmp 4]) 21 rfl rfl rfl rfl (by simp) rfl ?_
  conv => whnf
  repeat' (first | ((first | ((with_reducible apply Nm.mk); focus ((try simp only [lns]); exact rfl)) | (with_reducible apply Frz.l)) <;> conv => whnf) | fail)
  refine LoopN.unr 6 ttok mixed (T0 := 2003) ?_
  conv => whnf
  repeat' (first | with_reducible apply True.intro | ((apply Elem.mk _ rfl); (conv => whnf)) | ((apply Nm.mk (nm_all (by simp [beN_len] <;> omega))); (conv => whnf)) | ((apply Same.mk rfl); (conv => whnf)) | ((first | ((with_reducible apply Nm.mk); focus ((try simp only [lns, beN_len]); exact rfl)) | ((with_reducible apply Wr.i64); focus omega) | ((with_reducible apply Need.mk); focus first | (simp only [lns, beN_len]; omega) | exact CleanP.lst rfl (fun _ => rfl)) | (apply CallN.mk (c1 _)) | (apply CallN.mk (c2 _)) | (apply CallN.mk (c3 _)) | (apply CallN.mk (c4 _)) | ((with_reducible apply Bif.dec) <;> intro h <;> (try simp only [lns, beN_len] at h) <;> (try (exfalso; omega))) | (with_reducible apply GiveN.lend) | (with_reducible apply Frz.l)) <;> conv => whnf) | fail)
  done
end Go.Fw
