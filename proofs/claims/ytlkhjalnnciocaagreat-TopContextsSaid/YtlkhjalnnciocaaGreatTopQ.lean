/- Addresses: the reference's Split, Of, Join, Mask. -/
import Derived.Test.YtlkhjalnnciocaaGreatPfx
namespace Go.Fw
open Go.Proofs
set_option maxHeartbeats 4000000
set_option maxRecDepth 4000
abbrev o8 (x : Int) : SV := .v (.int .u8 x)
/-- The first k bytes of a number. -/
def be8 (v : Int) (k : Nat) : List Int := (List.range 8).map fun i => if i < k then v / 2 ^ (8 * (7 - i)) % 256 else 0
theorem be8_len (v : Int) (k : Nat) : (be8 v k).length = 8 := by simp [be8]
theorem be8_zero (v : Int) : be8 v 0 = List.replicate 8 0 := rfl
theorem be8_succ {v : Int} {k : Nat} (hk : k < 8) : (be8 v k).set k (v / 2 ^ (8 * (7 - k)) % 256) = be8 v (k + 1) := by
  apply List.ext_getElem?
  intro i
  rw [List.getElem?_set]
  simp only [be8, List.length_map, List.length_range, List.getElem?_map]
  by_cases hi : k = i
  · subst hi
    simp [hk]
  · rw [if_neg hi]
    by_cases h16 : i < 8
    · rw [List.getElem?_range h16]
      simp only [Option.map_some]
      congr 1
      by_cases h1 : i < k
      · rw [if_pos h1, if_pos (by omega)]
      · rw [if_neg h1, if_neg (by omega)]
    · rw [List.getElem?_eq_none (by simpa using h16)]; rfl
theorem wrap8 (x : Int) : IntKind.wrap .u8 x = x % 256 := by
  simp [IntKind.wrap, IntKind.bits, IntKind.signed]
theorem shr8 (v : Int) {k : Nat} (hk : k < 8) : IntKind.wrap .u8 (v.fdiv (2 ^ min (8 * (8 - 1 - (k : Int))).toNat IntKind.u64.bits)) = v / 2 ^ (8 * (7 - k)) % 256 := by
  have e : min (8 * (8 - 1 - (k : Int))).toNat IntKind.u64.bits = 8 * (7 - k) := by
    show min _ 64 = _
    omega
  rw [e, wrap8, Int.fdiv_eq_ediv_of_nonneg _ (Int.le_of_lt (Int.pow_pos (by decide)))]
theorem setB8 {v : Int} {k : Nat} (hk : k < 8) : lst o8 ((be8 v k).set (((0 : Nat) : Int) + (k : Int)).toNat (v / 2 ^ (8 * (7 - k)) % 256)) = lst o8 (be8 v (k + 1)) := by
  rw [← be8_succ hk, show (((0 : Nat) : Int) + (k : Int)).toNat = k by omega]
theorem k_Append8 (v : Int) (hv : 0 ≤ v ∧ v < 18446744073709551616) : Con Tryz.prog 72 [.v (.slice none 0 0), .v (.int .u64 v), int 8] [] (.ov 1 0 0 8) [.arr (some 8) 1 (lst o8 (be8 v 8))] := by
  refine spec_of_run ttok mixed (T0 := 58737095) (ts := [.tmp 6]) 43 rfl rfl rfl rfl (by simp) rfl ?_
  conv => whnf
  repeat' (first | ((with_reducible apply Need.mk); (focus (refine ⟨?_, ?_, ?_⟩ <;> first | decide | (unfold roomOK; decide) | fail)); (conv => whnf)) | ((first | (with_reducible apply Nm.rep _ (rfl)) | ((with_reducible apply Nm.mk); focus ((try simp only [lns, be8_len]); exact rfl)) | ((with_reducible apply Wr.i64); focus omega) | ((with_reducible apply Need.mk); focus (simp only [lns, be8_len]; omega)) | (with_reducible apply Bif.F) | ((with_reducible apply Bif.dec) <;> intro h <;> (try simp only [lns, be8_len] at h) <;> (try (exfalso; omega))) | (with_reducible apply Frz.l)) <;> conv => whnf) | fail)
  refine loop_keep ttok mixed (T0 := 58737095) [0, 1, 2, 23] (ι := {k : Nat // k ≤ 8})
    (fun k => [(7, .ov 1 0 0 8), (24, int (k.1 : Int))]) (fun k => [.arr (some 8) 1 (lst o8 (be8 v k.1))]) (fun k => 8 - k.1) ⟨0, by omega⟩ ?_
  conv => whnf
  repeat' (first | ((first | (with_reducible apply Same.rfl) | (apply Same.int; focus rfl) | (apply Same.ov; (focus rfl); focus rfl) | ((with_reducible apply Same.mk); focus omega) | (apply Same.rfl) | (with_reducible apply Frz.l)) <;> conv => whnf) | fail)
  rintro ⟨k, hk⟩
  dsimp only
  conv => whnf
  repeat' (first | ((apply Wr.eq (shr8 v (k := k) (by omega))); (conv => whnf)) | ((first | (with_reducible apply Nm.set _ (rfl)) | ((with_reducible apply Nm.mk); focus ((try simp only [lns, be8_len]); exact rfl)) | ((with_reducible apply Wr.i64); focus omega) | ((with_reducible apply Need.mk); focus omega) | ((with_reducible apply Elem.lst); focus (simp only [lns, be8_len]; omega)) | ((with_reducible apply Bif.dec) <;> intro h <;> (try simp only [lns, be8_len] at h)) | (with_reducible apply Same.rfl) | (with_reducible apply Frz.l)) <;> conv => whnf) | fail)
  · (refine ⟨⟨k + 1, by omega⟩, ?_⟩; (try dsimp only); conv => whnf); repeat' (first | with_reducible apply True.intro | ((apply Same.mk (setB8 (by omega))); (conv => whnf)) | ((first | ((with_reducible apply Need.mk); focus omega) | (with_reducible apply Same.rfl) | (apply Same.int; focus rfl) | (with_reducible apply Turn.l) | (with_reducible apply Frz.l)) <;> conv => whnf) | fail)
  · have e : k = 8 := by omega
    subst e
    repeat' (first | with_reducible apply True.intro | ((first | (with_reducible apply Same.rfl) | (with_reducible apply Frz.l)) <;> conv => whnf) | fail)
theorem be8_byt (v : Int) (k : Nat) : ∀ x ∈ be8 v k, 0 ≤ x ∧ x ≤ 255 := fun x hx => by
  obtain ⟨i, _, rfl⟩ := List.mem_map.1 hx
  split
  · omega
  · omega
/-- The first 64 bits of an address, and a number. -/
def ipJ (a : IP) (v : Int) : IP := ⟨a.1.take 8 ++ be8 v 8, by simp [be8_len, a.2.1], fun x hx => by
  rcases List.mem_append.1 hx with h | h
  · exact a.2.2 x (List.mem_of_mem_take h)
  · exact be8_byt v 8 x h⟩
theorem ipJ_copy (a : IP) (v : Int) : SV.ba 16 (a.1.take (Int.toNat 8) ++ (be8 v 8).take (16 - Int.toNat 8) ++ a.1.drop (Int.toNat 8 + min (16 - Int.toNat 8) 8)) = ipV (ipJ a v) := by
  have e1 : (be8 v 8).take 8 = be8 v 8 := List.take_of_length_le (by rw [be8_len]; omega)
  have e2 : a.1.drop 16 = [] := List.drop_eq_nil_of_le (by rw [a.2.1]; omega)
  show SV.ba 16 (a.1.take 8 ++ (be8 v 8).take 8 ++ a.1.drop 16) = SV.ba 16 (a.1.take 8 ++ be8 v 8)
  rw [e1, e2, List.append_nil]
theorem be8_eq (v : Int) : be8 v 8 = [v / 72057594037927936 % 256, v / 281474976710656 % 256, v / 1099511627776 % 256, v / 4294967296 % 256, v / 16777216 % 256, v / 65536 % 256, v / 256 % 256, v / 1 % 256] := rfl
def bigV (l : List Int) : Int := l.foldl (fun x b => x * 256 + b) 0
theorem bigV_snoc (l : List Int) (b : Int) : bigV (l ++ [b]) = bigV l * 256 + b := by simp [bigV]
def byts (l : List Int) : Prop := ∀ x ∈ l, 0 ≤ x ∧ x ≤ 255
theorem bigV_lt : ∀ (n : Nat) (l : List Int), byts l → l.length = n → 0 ≤ bigV l ∧ bigV l < 256 ^ n
  | 0, l, _, hl => by rw [List.length_eq_zero_iff.1 hl]; simp [bigV]
  | n + 1, l, hb, hl => by
    have hne : l ≠ [] := fun e => by rw [e] at hl; simp at hl
    obtain ⟨h1, h2⟩ := bigV_lt n l.dropLast (fun x hx => hb x (List.dropLast_subset l hx)) (by rw [List.length_dropLast]; omega)
    have h3 := hb _ (List.getLast_mem hne)
    rw [← List.dropLast_concat_getLast hne, bigV_snoc, Int.pow_succ]
    omega
theorem bigV_le {l : List Int} (hb : byts l) (hl : l.length ≤ 7) : 0 ≤ bigV l ∧ bigV l < 72057594037927936 := by
  obtain ⟨h1, h2⟩ := bigV_lt _ l hb rfl
  refine ⟨h1, Int.lt_of_lt_of_le h2 ?_⟩
  have : l.length = 0 ∨ l.length = 1 ∨ l.length = 2 ∨ l.length = 3 ∨ l.length = 4 ∨ l.length = 5 ∨ l.length = 6 ∨ l.length = 7 := by omega
  rcases this with h | h | h | h | h | h | h | h <;> rw [h] <;> decide
theorem be8_big {l : List Int} (hb : byts l) (hl : l.length = 8) : be8 (bigV l) 8 = l := by
  match l, hl with
  | [a, b, c, d, e, f, g, h], _ =>
    have ha := hb a (by simp)
    have hb' := hb b (by simp)
    have hc := hb c (by simp)
    have hd := hb d (by simp)
    have he := hb e (by simp)
    have hf := hb f (by simp)
    have hg := hb g (by simp)
    have hh := hb h (by simp)
    have hv : bigV [a, b, c, d, e, f, g, h] = ((((((a * 256 + b) * 256 + c) * 256 + d) * 256 + e) * 256 + f) * 256 + g) * 256 + h := by simp [bigV]
    rw [be8_eq, hv]
    have e7 : ∀ x y : Int, 0 ≤ y → y < 256 → (x * 256 + y) / 256 = x ∧ (x * 256 + y) % 256 = y := fun x y h1 h2 => ⟨by omega, by omega⟩
    simp only [List.cons.injEq, and_true]
    refine ⟨by omega, by omega, by omega, by omega, by omega, by omega, by omega, by omega⟩
theorem wrap64u {x : Int} (h : 0 ≤ x ∧ x < 18446744073709551616) : IntKind.wrap .u64 x = x := by
  have : IntKind.wrap .u64 x = x % 18446744073709551616 := by simp [IntKind.wrap, IntKind.bits, IntKind.signed]
  rw [this]; omega
theorem shlB {x : Int} (h : 0 ≤ x ∧ x < 72057594037927936) : IntKind.wrap .u64 (x * 2 ^ min (Int.toNat 8) IntKind.u64.bits) = x * 256 := by
  show IntKind.wrap .u64 (x * 256) = _
  exact wrap64u (by omega)
theorem big_step {l : List Int} {k : Nat} (h : k < l.length) : bigV (l.take k) * 256 + l.getD k 0 = bigV (l.take (k + 1)) := by
  rw [List.take_succ_eq_append_getElem h, bigV_snoc, List.getD_eq_getElem?_getD, List.getElem?_eq_getElem h]; rfl
theorem getD_byt (a : IP) (k : Nat) : 0 ≤ a.1.getD k 0 ∧ a.1.getD k 0 ≤ 255 := by
  rw [List.getD_eq_getElem?_getD]
  rcases Nat.lt_or_ge k a.1.length with h | h
  · rw [List.getElem?_eq_getElem h]; exact a.2.2 _ (List.getElem_mem h)
  · rw [List.getElem?_eq_none h]; decide
theorem k_Split (a : IP) : Con Tryz.prog 80 [ipV a] [] (.tup [.v (.int .u64 (bigV (a.1.take 8))), .v (.int .u64 (bigV (a.1.drop 8)))]) [] := by
  have la := a.2.1
  have hb := a.2.2
  refine spec_of_run ttok mixed (T0 := 383) (ts := [.tmp 2, .tmp 3]) 28 rfl rfl rfl rfl (by simp) rfl ?_
  conv => whnf
  repeat' (first | ((with_reducible apply Frz.l) <;> conv => whnf) | fail)
  refine loop_keep ttok mixed (T0 := 383) [] (ι := {k : Nat // k ≤ 8})
    (fun k => [(1, .pb 0 []), (4, .v (.int .u64 (bigV (a.1.take k.1)))), (5, .v (.int .u64 (bigV ((a.1.drop 8).take k.1)))), (6, int (k.1 : Int))]) (fun k => [.cells (ipV a)]) (fun k => 8 - k.1) ⟨0, by omega⟩ ?_
  conv => whnf
  repeat' (first | ((first | (with_reducible apply Same.rfl) | (apply Same.int; focus rfl) | (with_reducible apply Frz.l)) <;> conv => whnf) | fail)
  rintro ⟨k, hk⟩
  dsimp only
  conv => whnf
  by_cases hk8 : k < 8
  · have b1 := bigV_le (l := a.1.take k) (fun x hx => hb x (List.mem_of_mem_take hx)) (by simp; omega)
    have b2 := bigV_le (l := (a.1.drop 8).take k) (fun x hx => hb x (List.mem_of_mem_drop (List.mem_of_mem_take hx))) (by simp; omega)
    have g1 := getD_byt a k
    have g2 := getD_byt a (8 + (k : Int)).toNat
    have q1 := big_step (l := a.1) (k := k) (by omega)
    have q2 := big_step (l := a.1.drop 8) (k := k) (by simp; omega)
    have q3 : (a.1.drop 8).getD k 0 = a.1.getD (8 + (k : Int)).toNat 0 := by
      rw [List.getD_eq_getElem?_getD, List.getD_eq_getElem?_getD, List.getElem?_drop]
      congr 2
    rw [q3] at q2
    repeat' (first | ((apply Wr.eq (shlB (by assumption))); (conv => whnf)) | ((apply Wr.eq (wrap64u (by omega))); (conv => whnf)) | ((first | ((with_reducible apply Nm.mk); focus ((try simp only [lns, be8_len]); exact rfl)) | ((with_reducible apply Wr.i64); focus omega) | ((with_reducible apply Need.mk); focus first | omega | kernel_rfl) | ((with_reducible apply Bif.dec) <;> intro h <;> (try simp only [lns, be8_len] at h) <;> (try (exfalso; omega))) | (with_reducible apply Frz.l)) <;> conv => whnf) | fail)
    (refine ⟨⟨k + 1, by omega⟩, ?_⟩; (try dsimp only); conv => whnf); repeat' (first | with_reducible apply True.intro | ((apply Same.mk (by rw [q1])); (conv => whnf)) | ((apply Same.mk (by rw [q2])); (conv => whnf)) | ((apply Same.mk rfl); (conv => whnf)) | ((first | ((with_reducible apply Need.mk); focus omega) | (with_reducible apply Turn.l) | (with_reducible apply Frz.l)) <;> conv => whnf) | fail)
  · have e : k = 8 := by omega
    subst e
    repeat' (first | with_reducible apply True.intro | ((apply Same.mk (by rw [List.take_of_length_le (l := List.drop 8 a.1) (by simp [la])])); (conv => whnf)) | ((first | ((with_reducible apply Bif.dec) <;> intro h <;> (try simp only [lns, be8_len] at h) <;> (try (exfalso; omega))) | (with_reducible apply Same.rfl) | (with_reducible apply Frz.l)) <;> conv => whnf) | fail)
theorem shrOf (v : Int) {k : Nat} (hk : k < 8) : IntKind.wrap .u8 (v.fdiv (2 ^ min (56 - 8 * (k : Int)).toNat IntKind.u64.bits)) = v / 2 ^ (8 * (7 - k)) % 256 := by
  have e : min (56 - 8 * (k : Int)).toNat IntKind.u64.bits = 8 * (7 - k) := by
    show min _ 64 = _
    omega
  rw [e, wrap8, Int.fdiv_eq_ediv_of_nonneg _ (Int.le_of_lt (Int.pow_pos (by decide)))]
theorem set2 {x y : Int} {k : Nat} (hk : k < 8) : ((be8 x k ++ be8 y k).set k (x / 2 ^ (8 * (7 - k)) % 256)).set (8 + (k : Int)).toNat (y / 2 ^ (8 * (7 - k)) % 256) = be8 x (k + 1) ++ be8 y (k + 1) := by
  have l1 := be8_len x k
  rw [show (8 + (k : Int)).toNat = 8 + k by omega, List.set_append_left _ _ (by omega), be8_succ hk, List.set_append_right _ _ (by rw [be8_len]; omega), be8_len, show 8 + k - 8 = k by omega, be8_succ hk]
theorem k_Of (x y : Int) : Con Tryz.prog 29 [.v (.int .u64 x), .v (.int .u64 y)] [] (.ba 16 (be8 x 8 ++ be8 y 8)) [] := by
  have l1 : ∀ k, (be8 x k ++ be8 y k).length = 16 := fun k => by rw [List.length_append, be8_len, be8_len]
  refine spec_of_run ttok mixed (T0 := 371) (ts := [.cell 4 67]) 31 rfl rfl rfl rfl (by simp) rfl ?_
  conv => whnf
  repeat' (first | ((with_reducible apply Frz.l) <;> conv => whnf) | fail)
  refine loop_keep ttok mixed (T0 := 371) [0, 1] (ι := {k : Nat // k ≤ 8})
    (fun k => [(4, .pb 0 []), (5, .pb 1 []), (6, int (k.1 : Int))]) (fun k => [.cells (.ba 16 (List.replicate 16 0)), .cells (.ba 16 (be8 x k.1 ++ be8 y k.1))]) (fun k => 8 - k.1) ⟨0, by omega⟩ ?_
  conv => whnf
  repeat' (first | ((apply Same.mk rfl); (conv => whnf)) | ((with_reducible apply Frz.l) <;> conv => whnf) | fail)
  rintro ⟨k, hk⟩
  dsimp only
  conv => whnf
  by_cases hk8 : k < 8
  · repeat' (first | ((apply Wr.eq (shrOf x hk8)); (conv => whnf)) | ((apply Wr.eq (shrOf y hk8)); (conv => whnf)) | ((apply Wr.eq (wrap64u (by omega))); (conv => whnf)) | ((first | ((with_reducible apply Nm.mk); focus ((try simp only [lns, be8_len]); exact rfl)) | ((with_reducible apply Wr.i64); focus omega) | ((with_reducible apply Need.mk); focus omega) | ((with_reducible apply Bif.dec) <;> intro h <;> (try simp only [lns, be8_len] at h) <;> (try (exfalso; omega))) | (with_reducible apply Frz.l)) <;> conv => whnf) | fail)
    (refine ⟨⟨k + 1, by omega⟩, ?_⟩; (try dsimp only); conv => whnf); repeat' (first | with_reducible apply True.intro | ((apply Same.mk (by rw [set2 hk8])); (conv => whnf)) | ((apply Same.mk rfl); (conv => whnf)) | ((first | ((with_reducible apply Need.mk); focus omega) | (with_reducible apply Turn.l) | (with_reducible apply Frz.l)) <;> conv => whnf) | fail)
  · have e : k = 8 := by omega
    subst e
    repeat' (first | with_reducible apply True.intro | ((first | ((with_reducible apply Bif.dec) <;> intro h <;> (try simp only [lns, be8_len] at h) <;> (try (exfalso; omega))) | (with_reducible apply Same.rfl) | (with_reducible apply Frz.l)) <;> conv => whnf) | fail)
theorem ipJ_eq (a : IP) (v : Int) : SV.ba 16 (be8 (bigV (a.1.take 8)) 8 ++ be8 v 8) = ipV (ipJ a v) := by
  rw [be8_big (fun x hx => a.2.2 x (List.mem_of_mem_take hx)) (by rw [List.length_take, a.2.1]; rfl)]; rfl
theorem k_rJoin (p : Pfx) (v : Int) (hp : vPfx p = true) (hb : p.bits ≤ 64) : Con Tryz.prog 34 [pfxV p, .v (.int .u64 v)] [] (.tup [ipV (ipJ p.ip v), bool true]) [] := by
  have c1 := k_ref04_ValidPrefix p
  have c2 := k_Split p.ip
  have c3 := k_Of (bigV (p.ip.1.take 8)) v
  rw [ipJ_eq] at c3
  rw [hp] at c1
  refine spec_of_run ttok mixed (T0 := 32887) (ts := [.cell 4 67, .tmp 5]) 26 rfl rfl rfl rfl (by simp) rfl ?_
  conv => whnf
  repeat' (first | with_reducible apply True.intro | ((first | (apply CallN.mk (c1)) | (apply CallN.mk (c2)) | (apply CallN.mk (c3)) | (with_reducible first | apply Bif.T | apply Bif.F) | ((with_reducible apply Bif.dec) <;> intro h <;> (try simp only [lns, be8_len] at h) <;> (try (exfalso; omega))) | (with_reducible apply Bif.not) | (with_reducible apply Same.rfl) | (apply Same.bool; focus (with_reducible rfl)) | (with_reducible apply Frz.l)) <;> conv => whnf) | fail)
/-! The reference's Mask -/
theorem or_all : ∀ (x : Fin 256) (r : Fin 8), IntKind.wrap .u8 ((x.1 : Int).fdiv (2 ^ (7 - r.1)) % 2 * 2 ^ (min (7 - r.1) 8)) = (x.1 : Int).fdiv (2 ^ (7 - r.1)) % 2 * 2 ^ (7 - r.1) ∧
    IntKind.wrap .u8 ((BitVec.ofInt 8 (cutB (x.1 : Int) (r.1 : Int)) ||| BitVec.ofInt 8 ((x.1 : Int).fdiv (2 ^ (7 - r.1)) % 2 * 2 ^ (7 - r.1))).toNat) = cutB (x.1 : Int) ((r.1 : Int) + 1) := by decide +kernel
theorem maskL_zero (a : IP) : maskL a.1 0 = List.replicate 16 0 := by
  apply List.ext_getElem?
  intro i
  by_cases hi : i < 16
  · rw [List.getElem?_replicate, if_pos hi, List.getElem?_eq_getElem (by rw [maskL_len]; exact hi), ← gt_eq, gt_maskL hi]
    have := byte_gt (a := a) hi
    have e : keepN 0 i = 0 := by unfold keepN; omega
    rw [e]
    congr 1
    simp only [cutB, Int.toNat_zero, Nat.sub_zero]
    omega
  · rw [List.getElem?_eq_none (by rw [maskL_len]; omega), List.getElem?_eq_none (by simp; omega)]
theorem maskL_step (a : IP) {i : Nat} (hi : i < 128) : (maskL a.1 i).set (i / 8) (cutB (gt a.1 (i / 8)) ((i % 8 : Nat) + 1)) = maskL a.1 ((i : Int) + 1) := by
  apply ext_gt (by simp [maskL_len])
  intro j hj
  rw [List.length_set, maskL_len] at hj
  rw [gt_set (by rw [maskL_len]; omega), gt_maskL hj, gt_maskL hj]
  split
  · rename_i h; subst h
    congr 1
    unfold keepN; omega
  · congr 1
    unfold keepN; omega
theorem k_ref04_Mask (a : IP) (b : Int) : Con Tryz.prog 67 [ipV a, int b] [] (pfxV (maskP a b)) [] := by
  refine spec_of_run ttok mixed (T0 := 16503) (ts := [.cell 4 70]) 34 rfl rfl rfl rfl (by simp) rfl ?_
  conv => whnf
  repeat' (first | ((with_reducible apply Frz.l) <;> conv => whnf) | fail)
  obtain ⟨c, hc⟩ : ∃ c, c = min (max b 0) 128 := ⟨_, rfl⟩
  refine loop_keep ttok mixed (T0 := 16503) [] (ι := {k : Nat // k ≤ c})
    (fun k => [(6, int (k.1 : Int)), (1, int c), (2, .pb 0 []), (4, .pb 1 []), (5, .pb 2 [])]) (fun k => [.cells (ipV a), .cells (pfxV pfx0), .cells (.agg [.ba 16 (maskL a.1 k.1), .v (.int .i64 c)])]) (fun k => (c - k.1).toNat) ⟨0, by omega⟩ ?_
  conv => whnf
  repeat' (first | ((apply Same.mk (by rw [show ((0 : Nat) : Int) = 0 from rfl, maskL_zero, hc]; rfl)); (conv => whnf)) | ((apply Same.mk (by rw [hc]; rfl)); (conv => whnf)) | ((first | (with_reducible apply Same.rfl) | (apply Same.int; focus rfl) | (apply Same.rfl) | (with_reducible apply Frz.l)) <;> conv => whnf) | fail)
  rintro ⟨k, hk⟩
  dsimp only
  by_cases hkc : k < c
  · have e1 : (k : Int).tdiv 8 = ((k / 8 : Nat) : Int) := by rw [Int.tdiv_eq_ediv_of_nonneg (by omega)]; omega
    have e2 : (k : Int).tmod 8 = ((k % 8 : Nat) : Int) := by rw [Int.tmod_eq_emod_of_nonneg (by omega)]; omega
    have hw1 : IntKind.wrap .i64 ((k : Int).tdiv 8) = ((k / 8 : Nat) : Int) := by rw [e1, wrap64_id (by omega)]
    have hw2 : IntKind.wrap .u64 ((k : Int).tmod 8) = ((k % 8 : Nat) : Int) := by rw [e2]; simp [IntKind.wrap, IntKind.bits, IntKind.signed]; omega
    have e3 : ((7 : Int) - ((k % 8 : Nat) : Int)).toNat = 7 - k % 8 := by omega
    have hb := byte_gt (a := a) (i := k / 8) (by omega)
    obtain ⟨y, hy⟩ := fin_ex (n := 256) (x := gt a.1 (k / 8)) (by omega)
    have hor := or_all y ⟨k % 8, by omega⟩
    rw [← hy] at hor
    have hw3 : IntKind.wrap .u8 (bitI a k * 2 ^ (min ((7 : Int) - ((k % 8 : Nat) : Int)).toNat (IntKind.bits .u8))) = bitI a k * 2 ^ (7 - k % 8) := by rw [e3]; exact hor.1
    have hst : (maskL a.1 k).set (k / 8) (IntKind.wrap .u8 ((BitVec.ofInt (IntKind.bits .u8) ((maskL a.1 k).getD (k / 8) 0) ||| BitVec.ofInt (IntKind.bits .u8) (bitI a k * 2 ^ (7 - k % 8))).toNat)) = maskL a.1 ((k : Int) + 1) := by
      rw [← maskL_step a (by omega), ← hor.2]
      have : (maskL a.1 k).getD (k / 8) 0 = cutB (gt a.1 (k / 8)) ((k % 8 : Nat) : Int) := by
        rw [show (maskL a.1 k).getD (k / 8) 0 = gt (maskL a.1 k) (k / 8) from rfl, gt_maskL (by omega)]
        congr 1
        unfold keepN; omega
      rw [this]
      rfl
    conv => whnf
    repeat' (first | ((apply Wr.eq hw1); (conv => whnf)) | ((apply Wr.eq hw2); (conv => whnf)) | ((apply Wr.eq hw3); (conv => whnf)) | ((first | ((with_reducible apply Nm.mk); focus ((try simp only [lns, be8_len]); exact rfl)) | ((with_reducible first | apply Wr.i64 | apply Wr.u64); focus omega) | ((with_reducible apply Need.mk); focus first | omega | kernel_rfl) | (apply CallN.mk (k_bit _ k (by omega))) | ((with_reducible apply Bif.dec) <;> intro h <;> (try simp only [lns, be8_len] at h) <;> (try (exfalso; omega))) | (with_reducible apply Frz.l)) <;> conv => whnf) | fail)
    all_goals ((refine ⟨⟨k + 1, by omega⟩, ?_⟩; (try dsimp only); conv => whnf); repeat' (first | with_reducible apply True.intro | ((apply Same.mk (by rw [hst]; rfl)); (conv => whnf)) | ((first | ((with_reducible apply Need.mk); focus omega) | (with_reducible apply Same.rfl) | (apply Same.int; focus rfl) | (with_reducible apply Turn.l) | (with_reducible apply Frz.l)) <;> conv => whnf) | fail))
  · obtain rfl : c = (k : Int) := by omega
    have hm : maskL a.1 k = (maskP a b).ip.1 := by show _ = maskL a.1 (min (max b 0) 128); rw [← hc]
    have hm2 : (k : Int) = (maskP a b).bits := hc
    conv => whnf
    repeat' (first | with_reducible apply True.intro | ((apply Same.mk (by rw [hm]; rfl)); (conv => whnf)) | ((apply Same.int hm2); (conv => whnf)) | ((first | ((with_reducible apply Bif.dec) <;> intro h <;> (try simp only [lns, be8_len] at h) <;> (try (exfalso; omega))) | (with_reducible apply Frz.l)) <;> conv => whnf) | fail)
end Go.Fw
