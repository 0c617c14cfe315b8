/- TopDownward: addresses, routes, small functions of package storing. -/
import Derived.Test.YtlkhjalnnciocaaGreatCmp

namespace Go.Fw
set_option maxRecDepth 4000
open Go.Proofs
set_option maxHeartbeats 8000000
def ipD (i : Nat) : IP := ⟨be8 2306139568115548160 8 ++ be8 ((i : Int) + 1) 8, by simp [be8_len], fun x hx => by
  rcases List.mem_append.1 hx with h | h
  · exact be8_byt _ _ x h
  · exact be8_byt _ _ x h⟩
def tgt (i : Nat) : Pfx := ⟨ipD i, 128⟩
structure Ro where
  i : Nat
  via : Nat
  seq : Nat
  exp : Nat
deriving Inhabited, DecidableEq
def roV (r : Ro) : SV := .agg [pfxV (tgt r.i), q64 (r.via : Int), .v (.int .u8 (r.seq : Int)), int (r.exp : Int)]
theorem k_ip (i : Nat) (hi : i ≤ 1000) : Con Tryz.prog 23 [int (i : Int)] [] (ipV (ipD i)) [] := by
  have c := k_Of 2306139568115548160 ((i : Int) + 1)
  refine spec_of_run ttok mixed (T0 := 5) (ts := [.cell 2 67]) 7 rfl rfl rfl rfl (by simp) rfl ?_
  conv => whnf
  repeat' (first | with_reducible apply True.intro | ((apply Same.mk rfl); (conv => whnf)) | ((first | ((with_reducible first | apply Wr.i64 | apply Wr.u64); focus omega) | (apply CallN.mk (c)) | (with_reducible apply Frz.l)) <;> conv => whnf) | fail)
theorem k_eui (i : Nat) (hi : i ≤ 1000) : Con Tryz.prog 25 [int (i : Int)] [] (q64 ((144115188075855873 + i : Nat) : Int)) [] := by
  refine spec_of_run ttok mixed (T0 := 5) (ts := [.tmp 2]) 6 rfl rfl rfl rfl (by simp) rfl ?_
  conv => whnf
  repeat' (first | with_reducible apply True.intro | ((first | ((with_reducible first | apply Wr.i64 | apply Wr.u64); focus omega) | (apply Same.int; focus rfl) | (with_reducible apply Frz.l)) <;> conv => whnf) | fail)
theorem k_isTime (t : Int) : Con Tryz.prog 63 [int t] [] (bool (decide (0 ≤ t ∧ t ≤ 1099511627776))) [] := by
  refine spec_of_run ttok mixed (T0 := 5) (ts := [.tmp 2]) 9 rfl rfl rfl rfl (by simp) rfl ?_
  conv => whnf
  repeat' (first | ((first | (with_reducible first | apply Bif.T | apply Bif.F) | ((with_reducible apply Bif.dec) <;> intro h <;> (try simp only [lns] at h)) | (with_reducible apply Frz.l)) <;> conv => whnf) | fail)
  all_goals (apply Same.bool (by simp; omega); (conv => whnf); repeat' (first | with_reducible apply True.intro | ((with_reducible apply Frz.l) <;> conv => whnf) | fail))
theorem cmp_ipD : ∀ i j : Fin 58, cmpIP (ipD i.1) (ipD j.1) = (if i.1 < j.1 then -1 else if i.1 = j.1 then 0 else 1) := by decide +kernel
theorem tgt_v : ∀ i : Fin 58, vPfx (tgt i.1) = true := by decide +kernel
theorem k_scompare (i j : Nat) (hi : i < 7) (hj : j < 7) : Con Tryz.prog 125 [pfxV (tgt i), pfxV (tgt j)] [] (int (if i < j then -1 else if i = j then 0 else 1)) [] := by
  have e : cmpB (ipD i).1 (ipD j).1 = _ := cmp_ipD ⟨i, by omega⟩ ⟨j, by omega⟩
  have c := k_bytesCompare (ipD i) (ipD j)
  rw [e] at c
  clear e
  dsimp only at c
  rcases Nat.lt_trichotomy i j with h | h | h
  · rw [if_pos h] at c ⊢
    refine spec_of_run ttok mixed (T0 := 4159) (ts := [.tmp 4]) 19 rfl rfl rfl rfl (by simp) rfl ?_
    conv => whnf
    repeat' (first | with_reducible apply True.intro | ((first | ((with_reducible apply Nm.mk); focus ((try simp only [lns, ipRows_take]); exact rfl)) | ((with_reducible apply Need.mk); focus first | omega | exact CleanP.nil rfl | kernel_rfl) | (apply CallN.mk (c _ _)) | ((with_reducible apply Bif.bne) <;> intro h <;> (try simp only [lns, ipRows_take] at h) <;> (try (exfalso; omega))) | (with_reducible apply Same.rfl) | (with_reducible apply Frz.l)) <;> conv => whnf) | fail)
  · rw [if_neg (by omega), if_pos h] at c ⊢
    refine spec_of_run ttok mixed (T0 := 4159) (ts := [.tmp 4]) 19 rfl rfl rfl rfl (by simp) rfl ?_
    conv => whnf
    repeat' (first | with_reducible apply True.intro | ((first | ((with_reducible apply Nm.mk); focus ((try simp only [lns, ipRows_take]); exact rfl)) | ((with_reducible apply Need.mk); focus first | omega | exact CleanP.nil rfl | kernel_rfl) | (apply CallN.mk (c _ _)) | (apply CallN.mk (k_cmpI _)) | ((with_reducible apply Bif.bne) <;> intro h <;> (try simp only [lns, ipRows_take] at h) <;> (try (exfalso; omega))) | (with_reducible apply Same.rfl) | (with_reducible apply Frz.l)) <;> conv => whnf) | fail)
  · rw [if_neg (by omega), if_neg (by omega)] at c ⊢
    refine spec_of_run ttok mixed (T0 := 4159) (ts := [.tmp 4]) 19 rfl rfl rfl rfl (by simp) rfl ?_
    conv => whnf
    repeat' (first | with_reducible apply True.intro | ((first | ((with_reducible apply Nm.mk); focus ((try simp only [lns, ipRows_take]); exact rfl)) | ((with_reducible apply Need.mk); focus first | omega | exact CleanP.nil rfl | kernel_rfl) | (apply CallN.mk (c _ _)) | ((with_reducible apply Bif.bne) <;> intro h <;> (try simp only [lns, ipRows_take] at h) <;> (try (exfalso; omega))) | (with_reducible apply Same.rfl) | (with_reducible apply Frz.l)) <;> conv => whnf) | fail)
theorem k_sRegister (i s l : Nat) (hi : i < 7) (hl : l ≤ 1000) : Con Tryz.prog 62 [.agg [pfxV (tgt i), .v (.int .u8 (s : Int)), int (l : Int)]] [] (bool true) [] := by
  have ct := k_isTime (l : Int)
  rw [decide_eq_true (by omega)] at ct
  have cv := k_ValidPrefix (tgt i)
  rw [tgt_v ⟨i, by omega⟩] at cv
  refine spec_of_run ttok mixed (T0 := 7) (ts := [.tmp 2]) 11 rfl rfl rfl rfl (by simp) rfl ?_
  conv => whnf
  repeat' (first | with_reducible apply True.intro | ((first | (apply CallN.mk (ct)) | (apply CallN.mk (cv)) | (with_reducible apply Bif.T) | (with_reducible apply Same.rfl) | (with_reducible apply Frz.l)) <;> conv => whnf) | fail)
/-- A table: sorted by the node. -/
structure Tb (l : List Ro) : Prop where
  ok : ∀ r ∈ l, r.i < 7 ∧ r.via ≠ 0 ∧ r.exp ≤ 1099511627776
  so : ∀ k, k + 1 < l.length → (gt l k).i < (gt l (k + 1)).i
theorem Tb.lt {l : List Ro} (h : Tb l) : ∀ {j k : Nat}, j < k → k < l.length → (gt l j).i < (gt l k).i := fun {j k} hjk hk => by
  induction k with
  | zero => omega
  | succ k ih =>
    have := h.so k hk
    rcases Nat.lt_or_ge j k with g | g
    · have := ih g (by omega); omega
    · obtain rfl : j = k := by omega
      exact this
theorem Tb.ge {l : List Ro} (h : Tb l) : ∀ {k : Nat}, k < l.length → k ≤ (gt l k).i := fun {k} hk => by
  induction k with
  | zero => omega
  | succ k ih =>
    have := h.so k hk
    have := ih (by omega)
    omega
theorem Tb.len {l : List Ro} (h : Tb l) : l.length ≤ 7 := by
  rcases Nat.lt_or_ge 7 l.length with g | g
  · have h1 := h.ge (k := 7) g
    have h2 := (h.ok _ (gt_mem g)).1
    omega
  · exact g
theorem k_sValid (l : List Ro) (T : Tb l) : Con Tryz.prog 61 [.fs .no 20 (lst roV l)] [] (bool true) [] := by
  have hl := T.len
  refine spec_of_run ttok mixed (T0 := 8796629897117) (ts := [.tmp 2]) 45 rfl rfl rfl rfl (by simp) rfl ?_
  conv => whnf
  repeat' (first | ((first | ((with_reducible apply Nm.mk); focus ((try simp only [lns]); exact rfl)) | ((with_reducible apply Bif.dec) <;> intro h <;> (try simp only [lns] at h) <;> (try (exfalso; omega))) | (with_reducible apply Frz.l)) <;> conv => whnf) | fail)
  refine loop_keep ttok mixed (T0 := 8796629897117) [0, 8, 9] (ι := {k : Nat // k ≤ l.length})
    (fun q => [(10, int (q.1 : Int))]) (fun _ => []) (fun q => l.length - q.1) ⟨0, by omega⟩ ?_
  conv => whnf
  repeat' (first | ((first | (with_reducible apply Same.rfl) | (apply Same.int; focus rfl) | (with_reducible apply Frz.l)) <;> conv => whnf) | fail)
  rintro ⟨k, hk⟩
  dsimp only
  conv => whnf
  by_cases hkn : k < l.length
  · obtain ⟨h1, h2, h3⟩ := T.ok _ (gt_mem hkn)
    have ct := k_isTime ((gt l k).exp : Int)
    rw [decide_eq_true (by omega)] at ct
    have cv := k_ValidPrefix (tgt (gt l k).i)
    rw [tgt_v ⟨_, Nat.lt_of_lt_of_le h1 (by decide)⟩] at cv
    by_cases hk0 : k = 0
    · subst hk0
      repeat' (first | ((first | ((with_reducible apply Nm.mk); focus ((try simp only [lns]); exact rfl)) | ((with_reducible apply Wr.i64); focus omega) | ((with_reducible apply Need.mk); focus first | (simp only [lns]; omega) | kernel_rfl) | ((with_reducible apply Elem.lst); focus omega) | (apply CallN.mk (ct)) | (apply CallN.mk (cv)) | (with_reducible first | apply Bif.T | apply Bif.F) | ((with_reducible first | apply Bif.dec | apply Bif.beq) <;> intro h <;> (try simp only [lns] at h) <;> (try (exfalso; omega))) | (with_reducible apply Bif.not) | (with_reducible apply Frz.l)) <;> conv => whnf) | fail)
      (refine ⟨⟨0 + 1, hkn⟩, ?_⟩; (try dsimp only); conv => whnf); repeat' (first | with_reducible apply True.intro | ((first | ((with_reducible apply Need.mk); focus omega) | (with_reducible apply Same.rfl) | (apply Same.int; focus rfl) | (with_reducible apply Turn.l) | (with_reducible apply Frz.l)) <;> conv => whnf) | fail)
    · have h4 := (T.ok _ (gt_mem (l := l) (i := ((k : Int) - 1).toNat) (by omega))).1
      have h5 := T.lt (j := ((k : Int) - 1).toNat) (k := k) (by omega) hkn
      have cc := k_scompare _ _ h4 h1
      rw [if_pos h5] at cc
      repeat' (first | ((first | ((with_reducible apply Nm.mk); focus ((try simp only [lns]); exact rfl)) | ((with_reducible apply Wr.i64); focus omega) | ((with_reducible apply Need.mk); focus first | (simp only [lns]; omega) | kernel_rfl) | ((with_reducible apply Elem.lst); focus omega) | (apply CallN.mk (ct)) | (apply CallN.mk (cv)) | (apply CallN.mk (cc)) | (with_reducible first | apply Bif.T | apply Bif.F) | ((with_reducible first | apply Bif.dec | apply Bif.beq) <;> intro h <;> (try simp only [lns] at h) <;> (try (exfalso; omega))) | (with_reducible apply Bif.not) | (with_reducible apply Frz.l)) <;> conv => whnf) | fail)
      (refine ⟨⟨k + 1, hkn⟩, ?_⟩; (try dsimp only); conv => whnf); repeat' (first | with_reducible apply True.intro | ((first | ((with_reducible apply Need.mk); focus omega) | (with_reducible apply Same.rfl) | (apply Same.int; focus rfl) | (with_reducible apply Turn.l) | (with_reducible apply Frz.l)) <;> conv => whnf) | fail)
  · repeat' (first | with_reducible apply True.intro | ((first | ((with_reducible apply Bif.dec) <;> intro h <;> (try simp only [lns] at h) <;> (try (exfalso; omega))) | (apply Same.bool; focus (with_reducible rfl)) | (with_reducible apply Frz.l)) <;> conv => whnf) | fail)
  done
end Go.Fw

/- TopDownward: storing.find, storing.Next. -/
namespace Go.Fw
set_option maxRecDepth 4000
open Go.Proofs
set_option maxHeartbeats 8000000
def atR : List Ro → Nat → Nat
  | [], _ => 0
  | r :: l, i => if r.i < i then atR l i + 1 else 0
def fnR (l : List Ro) (i : Nat) : Bool := decide (atR l i < l.length ∧ (gt l (atR l i)).i = i)
theorem atR_le : ∀ (l : List Ro) (i : Nat), atR l i ≤ l.length
  | [], _ => Nat.le_refl _
  | r :: l, i => by
    have := atR_le l i
    simp only [atR, List.length_cons]
    split <;> omega
theorem atR_lt : ∀ {l : List Ro} {i k : Nat}, k < atR l i → (gt l k).i < i
  | [], _, _, h => by simp [atR] at h
  | r :: l, i, k, h => by
    simp only [atR] at h
    split at h
    · match k with
      | 0 => assumption
      | k + 1 => exact atR_lt (l := l) (by omega)
    · omega
theorem atR_at : ∀ {l : List Ro} {i : Nat}, atR l i < l.length → ¬ (gt l (atR l i)).i < i
  | [], _, h => by simp at h
  | r :: l, i, h => by
    simp only [atR, List.length_cons] at h ⊢
    split
    · rename_i g
      rw [if_pos g] at h
      exact atR_at (l := l) (by omega)
    · assumption
theorem k_sfind (l : List Ro) (T : Tb l) (i : Nat) (hi : i < 7) : Con Tryz.prog 64 [.fs .no 20 (lst roV l), pfxV (tgt i)] [] (.tup [int (atR l i : Int), bool (fnR l i)]) [] := by
  have hl := T.len
  have hle := atR_le l i
  refine spec_of_run ttok mixed (T0 := 2105339) (ts := [.tmp 4, .tmp 5]) 28 rfl rfl rfl rfl (by simp) rfl ?_
  conv => whnf
  repeat' (first | ((first | ((with_reducible apply Nm.mk); focus ((try simp only [lns]); exact rfl)) | (with_reducible apply Frz.l)) <;> conv => whnf) | fail)
  refine loop_keep ttok mixed (T0 := 2105339) [0, 3, 9, 10] (ι := {k : Nat // k ≤ atR l i})
    (fun q => [(11, int (q.1 : Int))]) (fun _ => [.cells (pfxV (tgt i))]) (fun q => l.length - q.1) ⟨0, by omega⟩ ?_
  conv => whnf
  repeat' (first | ((first | (with_reducible apply Same.rfl) | (apply Same.int; focus rfl) | (with_reducible apply Frz.l)) <;> conv => whnf) | fail)
  rintro ⟨k, hk⟩
  dsimp only
  conv => whnf
  by_cases hkn : k < l.length
  · obtain ⟨h1, h2, h3⟩ := T.ok _ (gt_mem hkn)
    have cc := k_scompare _ _ h1 hi
    by_cases hka : k < atR l i
    · rw [if_pos (atR_lt hka)] at cc
      repeat' (first | ((first | ((with_reducible apply Nm.mk); focus ((try simp only [lns]); exact rfl)) | ((with_reducible apply Wr.i64); focus omega) | ((with_reducible apply Need.mk); focus (simp only [lns]; omega)) | ((with_reducible apply Elem.lst); focus omega) | (apply CallN.mk (cc)) | ((with_reducible apply Bif.dec) <;> intro h <;> (try simp only [lns] at h) <;> (try (exfalso; omega))) | (with_reducible apply Frz.l)) <;> conv => whnf) | fail)
      (refine ⟨⟨k + 1, hka⟩, ?_⟩; (try dsimp only); conv => whnf); repeat' (first | with_reducible apply True.intro | ((first | ((with_reducible apply Need.mk); focus omega) | (with_reducible apply Same.rfl) | (apply Same.int; focus rfl) | (with_reducible apply Turn.l) | (with_reducible apply Frz.l)) <;> conv => whnf) | fail)
    · obtain rfl : k = atR l i := by omega
      have ha := atR_at hkn
      by_cases he : (gt l (atR l i)).i = i
      · rw [if_neg ha, if_pos he] at cc
        have hf : fnR l i = true := decide_eq_true ⟨hkn, he⟩
        rw [hf]
        repeat' (first | with_reducible apply True.intro | ((first | ((with_reducible apply Nm.mk); focus ((try simp only [lns]); exact rfl)) | ((with_reducible apply Need.mk); focus (simp only [lns]; omega)) | ((with_reducible apply Elem.lst); focus omega) | (apply CallN.mk (cc)) | ((with_reducible apply Bif.dec) <;> intro h <;> (try simp only [lns] at h) <;> (try (exfalso; omega))) | (with_reducible apply Same.rfl) | (apply Same.rfl) | (with_reducible apply Frz.l)) <;> conv => whnf) | fail)
      · rw [if_neg ha, if_neg he] at cc
        have hf : fnR l i = false := decide_eq_false fun g => he g.2
        rw [hf]
        repeat' (first | with_reducible apply True.intro | ((first | ((with_reducible apply Nm.mk); focus ((try simp only [lns]); exact rfl)) | ((with_reducible apply Need.mk); focus (simp only [lns]; omega)) | ((with_reducible apply Elem.lst); focus omega) | (apply CallN.mk (cc)) | ((with_reducible apply Bif.dec) <;> intro h <;> (try simp only [lns] at h) <;> (try (exfalso; omega))) | (with_reducible apply Same.rfl) | (apply Same.rfl) | (with_reducible apply Frz.l)) <;> conv => whnf) | fail)
  · obtain rfl : k = l.length := by omega
    have ha : atR l i = l.length := by omega
    have hf : fnR l i = false := decide_eq_false fun g => by omega
    repeat' (first | with_reducible apply True.intro | ((apply Same.mk (show bool false = bool (fnR l i) by rw [hf])); (conv => whnf)) | ((apply Same.mk (show int (l.length : Int) = int (atR l i : Int) by rw [ha])); (conv => whnf)) | ((first | ((with_reducible apply Nm.mk); focus ((try simp only [lns]); exact rfl)) | ((with_reducible apply Bif.dec) <;> intro h <;> (try simp only [lns] at h) <;> (try (exfalso; omega))) | (with_reducible apply Frz.l)) <;> conv => whnf) | fail)
  done
end Go.Fw

/- TopDownward: address.Contains, storing.Next. -/
namespace Go.Fw
set_option maxRecDepth 4000
open Go.Proofs
set_option maxHeartbeats 8000000
theorem mask_tgt {i : Nat} (h : i < 58) : maskP (ipD i) 128 = tgt i := by
  have h1 := maskP_eq (p := tgt i) ⟨by show (0 : Int) ≤ 128; decide, by show (128 : Int) ≤ 128; decide⟩
  rw [tgt_v ⟨i, h⟩, decide_eq_true_eq] at h1
  exact h1
theorem tgt_inj {i j : Nat} (hi : i < 58) (hj : j < 58) (h : tgt i = tgt j) : i = j := by
  have h1 : ipD i = ipD j := congrArg Pfx.ip h
  have h2 := cmp_ipD ⟨i, hi⟩ ⟨j, hj⟩
  dsimp only at h2
  rw [h1, cmpIP_refl] at h2
  by_cases g : i < j
  · rw [if_pos g] at h2; omega
  · rw [if_neg g] at h2
    by_cases g2 : i = j
    · exact g2
    · rw [if_neg g2] at h2; omega
theorem k_sContains (j i : Nat) (hj : j < 7) (hi : i < 58) : Con Tryz.prog 66 [pfxV (tgt j), ipV (ipD i)] [] (bool (decide (j = i))) [] := by
  have cv := k_ValidPrefix (tgt j)
  rw [tgt_v ⟨j, by omega⟩] at cv
  have cm := k_Mask (ipD i) 128
  rw [mask_tgt hi] at cm
  have e : decide (tgt i = tgt j) = decide (j = i) := by
    rw [Bool.eq_iff_iff, decide_eq_true_eq, decide_eq_true_eq]
    exact ⟨fun h => (tgt_inj hi (by omega) h).symm, fun h => by rw [h]⟩
  refine spec_of_run ttok mixed (T0 := 31) (ts := [.tmp 4]) 15 rfl rfl rfl rfl (by simp) rfl ?_
  conv => whnf
  repeat' (first | ((first | ((with_reducible apply Need.mk); focus kernel_rfl) | (apply CallN.mk (cv)) | (apply CallN.mk (cm)) | (with_reducible apply Bif.T) | (with_reducible apply Frz.l)) <;> conv => whnf) | fail)
  apply Same.bool (by rw [pfx_eq, e]); (conv => whnf); repeat' (first | with_reducible apply True.intro | ((with_reducible apply Frz.l) <;> conv => whnf) | fail)
def viaK (l : List Ro) (i k : Nat) : Nat := if fnR l i = true ∧ atR l i < k then (gt l (atR l i)).via else 0
def bitK (l : List Ro) (i k : Nat) : Int := if fnR l i = true ∧ atR l i < k then 128 else -1
theorem Tb.at_eq {l : List Ro} (T : Tb l) {i k : Nat} (hk : k < l.length) (h : (gt l k).i = i) : k = atR l i ∧ fnR l i = true := by
  have h1 : ¬ k < atR l i := fun g => by have := atR_lt g; omega
  have h2 := atR_at (l := l) (i := i) (by omega)
  have h3 : ¬ atR l i < k := fun g => by have := T.lt g hk; omega
  obtain rfl : k = atR l i := by omega
  exact ⟨rfl, decide_eq_true ⟨hk, h⟩⟩
theorem k_sNext (l : List Ro) (T : Tb l) (now i : Nat) (hi : i < 58) (hn : now ≤ 1000) (he : ∀ r ∈ l, now < r.exp) :
    Con Tryz.prog 26 [.fs .no 20 (lst roV l), int (now : Int), ipV (ipD i)] [] (if fnR l i = true then .tup [q64 ((gt l (atR l i)).via : Int), int 0] else .tup [q64 0, int 15]) [] := by
  have hl := T.len
  have cV := k_sValid l T
  have ct := k_isTime (now : Int)
  rw [decide_eq_true (by omega)] at ct
  refine spec_of_run ttok mixed (T0 := 282574492421095) (ts := [.tmp 6, .tmp 7]) 50 rfl rfl rfl rfl (by simp) rfl ?_
  conv => whnf
  repeat' (first | ((first | ((with_reducible apply Nm.mk); focus ((try simp only [lns]); exact rfl)) | (apply CallN.mk (cV)) | (apply CallN.mk (ct)) | (with_reducible apply Bif.T) | (with_reducible apply Bif.not) | (with_reducible apply Frz.l)) <;> conv => whnf) | fail)
  refine loop_keep ttok mixed (T0 := 282574492421095) [1, 5, 18, 19] (ι := {k : Nat // k ≤ l.length})
    (fun q => [(8, q64 (viaK l i q.1 : Int)), (9, int (bitK l i q.1)), (20, int (q.1 : Int))]) (fun _ => [.cells (ipV (ipD i))]) (fun q => l.length - q.1) ⟨0, by omega⟩ ?_
  conv => whnf
  have v0 : viaK l i 0 = 0 := if_neg fun g => by omega
  have b0 : bitK l i 0 = -1 := if_neg fun g => by omega
  repeat' (first | ((apply Same.mk (show q64 0 = q64 (viaK l i 0 : Int) by rw [v0]; rfl)); (conv => whnf)) | ((apply Same.mk (show int (-1) = int (bitK l i 0) by rw [b0])); (conv => whnf)) | ((first | (with_reducible apply Same.rfl) | (apply Same.int; focus rfl) | (with_reducible apply Frz.l)) <;> conv => whnf) | fail)
  rintro ⟨k, hk⟩
  dsimp only
  conv => whnf
  by_cases hkn : k < l.length
  · obtain ⟨h1, h2, h3⟩ := T.ok _ (gt_mem hkn)
    have h4 := he _ (gt_mem hkn)
    have cc := k_sContains _ i h1 hi
    have tb : (tgt (gt l k).i).bits = 128 := rfl
    by_cases hf : fnR l i = true ∧ atR l i < k
    · have v1 : viaK l i (k + 1) = viaK l i k := by rw [viaK, viaK, if_pos hf, if_pos ⟨hf.1, by omega⟩]
      have b1 : bitK l i (k + 1) = 128 := if_pos ⟨hf.1, by omega⟩
      have b2 : bitK l i k = 128 := if_pos hf
      rw [b2]
      repeat' (first | ((first | ((with_reducible apply Nm.mk); focus ((try simp only [lns]); exact rfl)) | ((with_reducible apply Wr.i64); focus omega) | ((with_reducible apply Need.mk); focus (simp only [lns]; omega)) | ((with_reducible apply Elem.lst); focus omega) | (with_reducible first | apply Bif.T | apply Bif.F) | ((with_reducible apply Bif.dec) <;> intro h <;> (try simp only [lns] at h) <;> (try (exfalso; omega))) | (with_reducible apply Frz.l)) <;> conv => whnf) | fail)
      (refine ⟨⟨k + 1, hkn⟩, ?_⟩; (try dsimp only); conv => whnf); repeat' (first | with_reducible apply True.intro | ((apply Same.mk (show q64 _ = q64 (viaK l i (k + 1) : Int) by rw [v1])); (conv => whnf)) | ((first | ((with_reducible apply Need.mk); focus omega) | (with_reducible apply Same.rfl) | (apply Same.int; focus first | rfl | omega) | (with_reducible apply Turn.l) | (with_reducible apply Frz.l)) <;> conv => whnf) | fail)
    · have b2 : bitK l i k = -1 := if_neg hf
      rw [b2]
      by_cases hki : (gt l k).i = i
      · obtain ⟨e1, e2⟩ := T.at_eq hkn hki
        rw [decide_eq_true hki] at cc
        have v1 : viaK l i (k + 1) = (gt l k).via := by rw [viaK, if_pos ⟨e2, by omega⟩, ← e1]
        have b1 : bitK l i (k + 1) = 128 := if_pos ⟨e2, by omega⟩
        repeat' (first | ((first | ((with_reducible apply Nm.mk); focus ((try simp only [lns]); exact rfl)) | ((with_reducible apply Wr.i64); focus omega) | ((with_reducible apply Need.mk); focus first | (simp only [lns]; omega) | kernel_rfl) | ((with_reducible apply Elem.lst); focus omega) | (apply CallN.mk (cc)) | (with_reducible apply Bif.T) | ((with_reducible apply Bif.dec) <;> intro h <;> (try simp only [lns] at h) <;> (try (exfalso; omega))) | (with_reducible apply Frz.l)) <;> conv => whnf) | fail)
        (refine ⟨⟨k + 1, hkn⟩, ?_⟩; (try dsimp only); conv => whnf); repeat' (first | with_reducible apply True.intro | ((apply Same.mk (show q64 _ = q64 (viaK l i (k + 1) : Int) by rw [v1])); (conv => whnf)) | ((apply Same.mk (show int _ = int (bitK l i (k + 1)) by rw [b1]; rfl)); (conv => whnf)) | ((first | ((with_reducible apply Need.mk); focus omega) | (with_reducible apply Same.rfl) | (apply Same.int; focus rfl) | (with_reducible apply Turn.l) | (with_reducible apply Frz.l)) <;> conv => whnf) | fail)
      · rw [decide_eq_false hki] at cc
        have hg : ¬ (fnR l i = true ∧ atR l i < k + 1) := fun g => by
          by_cases hak : atR l i < k
          · exact hf ⟨g.1, hak⟩
          · obtain rfl : k = atR l i := by omega
            exact hki (of_decide_eq_true g.1).2
        have v1 : viaK l i (k + 1) = viaK l i k := by rw [viaK, viaK, if_neg hg, if_neg hf]
        have b1 : bitK l i (k + 1) = -1 := if_neg hg
        repeat' (first | ((first | ((with_reducible apply Nm.mk); focus ((try simp only [lns]); exact rfl)) | ((with_reducible apply Wr.i64); focus omega) | ((with_reducible apply Need.mk); focus (simp only [lns]; omega)) | ((with_reducible apply Elem.lst); focus omega) | (apply CallN.mk (cc)) | (with_reducible first | apply Bif.T | apply Bif.F) | ((with_reducible apply Bif.dec) <;> intro h <;> (try simp only [lns] at h) <;> (try (exfalso; omega))) | (with_reducible apply Frz.l)) <;> conv => whnf) | fail)
        (refine ⟨⟨k + 1, hkn⟩, ?_⟩; (try dsimp only); conv => whnf); repeat' (first | with_reducible apply True.intro | ((apply Same.mk (show q64 _ = q64 (viaK l i (k + 1) : Int) by rw [v1])); (conv => whnf)) | ((first | ((with_reducible apply Need.mk); focus omega) | (with_reducible apply Same.rfl) | (apply Same.int; focus first | rfl | omega) | (with_reducible apply Turn.l) | (with_reducible apply Frz.l)) <;> conv => whnf) | fail)
  · obtain rfl : k = l.length := by omega
    by_cases hf : fnR l i = true
    · have hg : fnR l i = true ∧ atR l i < l.length := ⟨hf, (of_decide_eq_true hf).1⟩
      have v1 : viaK l i l.length = (gt l (atR l i)).via := if_pos hg
      have b1 : bitK l i l.length = 128 := if_pos hg
      rw [b1, if_pos hf]
      repeat' (first | with_reducible apply True.intro | ((apply Same.mk (show q64 (viaK l i l.length : Int) = q64 ((gt l (atR l i)).via : Int) by rw [v1])); (conv => whnf)) | ((first | ((with_reducible apply Bif.dec) <;> intro h <;> (try simp only [lns] at h) <;> (try (exfalso; omega))) | (apply Same.int; focus rfl) | (with_reducible apply Frz.l)) <;> conv => whnf) | fail)
    · have b1 : bitK l i l.length = -1 := if_neg fun g => hf g.1
      rw [b1, if_neg hf]
      repeat' (first | with_reducible apply True.intro | ((first | ((with_reducible apply Bif.dec) <;> intro h <;> (try simp only [lns] at h) <;> (try (exfalso; omega))) | (with_reducible apply Same.rfl) | (apply Same.int; focus rfl) | (with_reducible apply Frz.l)) <;> conv => whnf) | fail)
  done
end Go.Fw
