/- multihopref04.Split, Of, Join. -/
import Derived.Test.YtpmiaggdjgfjgaaGreatParQ

namespace Go.Fw
open Go.Proofs
set_option maxHeartbeats 4000000
set_option maxRecDepth 4000
def bigV (l : List Int) : Int := l.foldl (fun x b => x * 256 + b) 0
theorem bigV_snoc (l : List Int) (b : Int) : bigV (l ++ [b]) = bigV l * 256 + b := by simp [bigV]
def byts (l : List Int) : Prop := ∀ x ∈ l, 0 ≤ x ∧ x ≤ 255
theorem bigV_lt : ∀ (n : Nat) (l : List Int), byts l → l.length = n → 0 ≤ bigV l ∧ bigV l < 256 ^ n
  | 0, l, _, hl => by rw [List.length_eq_zero_iff.1 hl]; simp [bigV]
  | n + 1, l, hb, hl => by
    have hne : l ≠ [] := fun e => by rw [e] at hl; simp at hl
    obtain ⟨h1, h2⟩ := bigV_lt n l.dropLast (fun x hx => hb x (List.dropLast_subset l hx)) (by rw [List.length_dropLast]; omega)
    have h3 := hb _ (List.getLast_mem hne)
    rw [← List.dropLast_concat_getLast hne, bigV_snoc, Int.pow_succ]
    omega
theorem bigV_le {l : List Int} (hb : byts l) (hl : l.length ≤ 7) : 0 ≤ bigV l ∧ bigV l < 72057594037927936 := by
  obtain ⟨h1, h2⟩ := bigV_lt _ l hb rfl
  refine ⟨h1, Int.lt_of_lt_of_le h2 ?_⟩
  have : l.length = 0 ∨ l.length = 1 ∨ l.length = 2 ∨ l.length = 3 ∨ l.length = 4 ∨ l.length = 5 ∨ l.length = 6 ∨ l.length = 7 := by omega
  rcases this with h | h | h | h | h | h | h | h <;> rw [h] <;> decide
theorem be8_big {l : List Int} (hb : byts l) (hl : l.length = 8) : be8 (bigV l) 8 = l := by
  match l, hl with
  | [a, b, c, d, e, f, g, h], _ =>
    have ha := hb a (by simp)
    have hb' := hb b (by simp)
    have hc := hb c (by simp)
    have hd := hb d (by simp)
    have he := hb e (by simp)
    have hf := hb f (by simp)
    have hg := hb g (by simp)
    have hh := hb h (by simp)
    have hv : bigV [a, b, c, d, e, f, g, h] = ((((((a * 256 + b) * 256 + c) * 256 + d) * 256 + e) * 256 + f) * 256 + g) * 256 + h := by simp [bigV]
    rw [be8_eq, hv]
    have e7 : ∀ x y : Int, 0 ≤ y → y < 256 → (x * 256 + y) / 256 = x ∧ (x * 256 + y) % 256 = y := fun x y h1 h2 => ⟨by omega, by omega⟩
    simp only [List.cons.injEq, and_true]
    refine ⟨by omega, by omega, by omega, by omega, by omega, by omega, by omega, by omega⟩
theorem wrap64u {x : Int} (h : 0 ≤ x ∧ x < 18446744073709551616) : IntKind.wrap .u64 x = x := by
  have : IntKind.wrap .u64 x = x % 18446744073709551616 := by simp [IntKind.wrap, IntKind.bits, IntKind.signed]
  rw [this]; omega
theorem shlB {x : Int} (h : 0 ≤ x ∧ x < 72057594037927936) : IntKind.wrap .u64 (x * 2 ^ min (Int.toNat 8) IntKind.u64.bits) = x * 256 := by
  show IntKind.wrap .u64 (x * 256) = _
  exact wrap64u (by omega)
theorem big_step {l : List Int} {k : Nat} (h : k < l.length) : bigV (l.take k) * 256 + l.getD k 0 = bigV (l.take (k + 1)) := by
  rw [List.take_succ_eq_append_getElem h, bigV_snoc, List.getD_eq_getElem?_getD, List.getElem?_eq_getElem h]; rfl
theorem getD_byt (a : IP) (k : Nat) : 0 ≤ a.1.getD k 0 ∧ a.1.getD k 0 ≤ 255 := by
  rw [List.getD_eq_getElem?_getD]
  rcases Nat.lt_or_ge k a.1.length with h | h
  · rw [List.getElem?_eq_getElem h]; exact a.2.2 _ (List.getElem_mem h)
  · rw [List.getElem?_eq_none h]; decide
theorem k_Split (a : IP) : Con Tryz.prog 94 [ipV a] [] (.tup [.v (.int .u64 (bigV (a.1.take 8))), .v (.int .u64 (bigV (a.1.drop 8)))]) [] := by
  have la := a.2.1
  have hb := a.2.2
  refine spec_of_run ttok mixed (T0 := 383) (ts := [.tmp 2, .tmp 3]) 28 rfl rfl rfl rfl (by simp) rfl ?_
  conv => whnf
  repeat' (first | ((with_reducible apply Frz.l) <;> conv => whnf) | fail)
  refine loop_keep ttok mixed (T0 := 383) [] (ι := {k : Nat // k ≤ 8})
    (fun k => [(1, .pb 0 []), (4, .v (.int .u64 (bigV (a.1.take k.1)))), (5, .v (.int .u64 (bigV ((a.1.drop 8).take k.1)))), (6, int (k.1 : Int))]) (fun k => [.cells (ipV a)]) (fun k => 8 - k.1) ⟨0, by omega⟩ ?_
  conv => whnf
  repeat' (first | ((first | (with_reducible apply Same.rfl) | (apply Same.int; focus rfl) | (with_reducible apply Frz.l)) <;> conv => whnf) | fail)
  rintro ⟨k, hk⟩
  dsimp only
  conv => whnf
  by_cases hk8 : k < 8
  · have b1 := bigV_le (l := a.1.take k) (fun x hx => hb x (List.mem_of_mem_take hx)) (by simp; omega)
    have b2 := bigV_le (l := (a.1.drop 8).take k) (fun x hx => hb x (List.mem_of_mem_drop (List.mem_of_mem_take hx))) (by simp; omega)
    have g1 := getD_byt a k
    have g2 := getD_byt a (8 + (k : Int)).toNat
    have q1 := big_step (l := a.1) (k := k) (by omega)
    have q2 := big_step (l := a.1.drop 8) (k := k) (by simp; omega)
    have q3 : (a.1.drop 8).getD k 0 = a.1.getD (8 + (k : Int)).toNat 0 := by
      rw [List.getD_eq_getElem?_getD, List.getD_eq_getElem?_getD, List.getElem?_drop]
      congr 2
    rw [q3] at q2
    repeat' (first | ((apply Wr.eq (shlB (by assumption))); (conv => whnf)) | ((apply Wr.eq (wrap64u (by omega))); (conv => whnf)) | ((first | ((with_reducible apply Nm.mk); focus ((try simp only [lns]); exact rfl)) | ((with_reducible apply Wr.i64); focus omega) | ((with_reducible apply Need.mk); focus first | omega | kernel_rfl) | ((with_reducible apply Bif.dec) <;> intro h <;> (try simp only [lns] at h) <;> (try (exfalso; omega))) | (with_reducible apply Frz.l)) <;> conv => whnf) | fail)
    (refine ⟨⟨k + 1, by omega⟩, ?_⟩; (try dsimp only); conv => whnf); repeat' (first | with_reducible apply True.intro | ((apply Same.mk (by rw [q1])); (conv => whnf)) | ((apply Same.mk (by rw [q2])); (conv => whnf)) | ((apply Same.mk rfl); (conv => whnf)) | ((first | ((with_reducible apply Need.mk); focus omega) | (with_reducible apply Turn.l) | (with_reducible apply Frz.l)) <;> conv => whnf) | fail)
  · have e : k = 8 := by omega
    subst e
    repeat' (first | with_reducible apply True.intro | ((apply Same.mk (by rw [List.take_of_length_le (l := List.drop 8 a.1) (by simp [la])])); (conv => whnf)) | ((first | ((with_reducible apply Bif.dec) <;> intro h <;> (try simp only [lns] at h) <;> (try (exfalso; omega))) | (with_reducible apply Same.rfl) | (with_reducible apply Frz.l)) <;> conv => whnf) | fail)
theorem shrOf (v : Int) {k : Nat} (hk : k < 8) : IntKind.wrap .u8 (v.fdiv (2 ^ min (56 - 8 * (k : Int)).toNat IntKind.u64.bits)) = v / 2 ^ (8 * (7 - k)) % 256 := by
  have e : min (56 - 8 * (k : Int)).toNat IntKind.u64.bits = 8 * (7 - k) := by
    show min _ 64 = _
    omega
  rw [e, wrap8, Int.fdiv_eq_ediv_of_nonneg _ (Int.le_of_lt (Int.pow_pos (by decide)))]
theorem set2 {x y : Int} {k : Nat} (hk : k < 8) : ((be8 x k ++ be8 y k).set k (x / 2 ^ (8 * (7 - k)) % 256)).set (8 + (k : Int)).toNat (y / 2 ^ (8 * (7 - k)) % 256) = be8 x (k + 1) ++ be8 y (k + 1) := by
  have l1 := be8_len x k
  rw [show (8 + (k : Int)).toNat = 8 + k by omega, List.set_append_left _ _ (by omega), be8_succ hk, List.set_append_right _ _ (by rw [be8_len]; omega), be8_len, show 8 + k - 8 = k by omega, be8_succ hk]
theorem k_Of (x y : Int) : Con Tryz.prog 95 [.v (.int .u64 x), .v (.int .u64 y)] [] (.ba 16 (be8 x 8 ++ be8 y 8)) [] := by
  have l1 : ∀ k, (be8 x k ++ be8 y k).length = 16 := fun k => by rw [List.length_append, be8_len, be8_len]
  refine spec_of_run ttok mixed (T0 := 371) (ts := [.cell 4 32]) 31 rfl rfl rfl rfl (by simp) rfl ?_
  conv => whnf
  repeat' (first | ((with_reducible apply Frz.l) <;> conv => whnf) | fail)
  refine loop_keep ttok mixed (T0 := 371) [0, 1] (ι := {k : Nat // k ≤ 8})
    (fun k => [(4, .pb 0 []), (5, .pb 1 []), (6, int (k.1 : Int))]) (fun k => [.cells (.ba 16 (List.replicate 16 0)), .cells (.ba 16 (be8 x k.1 ++ be8 y k.1))]) (fun k => 8 - k.1) ⟨0, by omega⟩ ?_
  conv => whnf
  repeat' (first | ((apply Same.mk rfl); (conv => whnf)) | ((with_reducible apply Frz.l) <;> conv => whnf) | fail)
  rintro ⟨k, hk⟩
  dsimp only
  conv => whnf
  by_cases hk8 : k < 8
  · repeat' (first | ((apply Wr.eq (shrOf x hk8)); (conv => whnf)) | ((apply Wr.eq (shrOf y hk8)); (conv => whnf)) | ((apply Wr.eq (wrap64u (by omega))); (conv => whnf)) | ((first | ((with_reducible apply Nm.mk); focus ((try simp only [lns]); exact rfl)) | ((with_reducible apply Wr.i64); focus omega) | ((with_reducible apply Need.mk); focus omega) | ((with_reducible apply Bif.dec) <;> intro h <;> (try simp only [lns] at h) <;> (try (exfalso; omega))) | (with_reducible apply Frz.l)) <;> conv => whnf) | fail)
    (refine ⟨⟨k + 1, by omega⟩, ?_⟩; (try dsimp only); conv => whnf); repeat' (first | with_reducible apply True.intro | ((apply Same.mk (by rw [set2 hk8])); (conv => whnf)) | ((apply Same.mk rfl); (conv => whnf)) | ((first | ((with_reducible apply Need.mk); focus omega) | (with_reducible apply Turn.l) | (with_reducible apply Frz.l)) <;> conv => whnf) | fail)
  · have e : k = 8 := by omega
    subst e
    repeat' (first | with_reducible apply True.intro | ((first | ((with_reducible apply Bif.dec) <;> intro h <;> (try simp only [lns] at h) <;> (try (exfalso; omega))) | (with_reducible apply Same.rfl) | (with_reducible apply Frz.l)) <;> conv => whnf) | fail)
theorem ipJ_eq (a : IP) (v : Int) : SV.ba 16 (be8 (bigV (a.1.take 8)) 8 ++ be8 v 8) = ipV (ipJ a v) := by
  rw [be8_big (fun x hx => a.2.2 x (List.mem_of_mem_take hx)) (by rw [List.length_take, a.2.1]; rfl)]; rfl
theorem k_rJoin (p : Pfx) (v : Int) (hp : vPfx p = true) (hb : p.bits ≤ 64) : Con Tryz.prog 74 [pfxV p, .v (.int .u64 v)] [] (.tup [ipV (ipJ p.ip v), bool true]) [] := by
  have c1 := k_ref04_ValidPrefix p
  have c2 := k_Split p.ip
  have c3 := k_Of (bigV (p.ip.1.take 8)) v
  rw [ipJ_eq] at c3
  rw [hp] at c1
  refine spec_of_run ttok mixed (T0 := 32887) (ts := [.cell 4 32, .tmp 5]) 26 rfl rfl rfl rfl (by simp) rfl ?_
  conv => whnf
  repeat' (first | with_reducible apply True.intro | ((first | (apply CallN.mk (c1)) | (apply CallN.mk (c2)) | (apply CallN.mk (c3)) | (with_reducible first | apply Bif.T | apply Bif.F) | ((with_reducible apply Bif.dec) <;> intro h <;> (try simp only [lns] at h) <;> (try (exfalso; omega))) | (with_reducible apply Bif.not) | (with_reducible apply Same.rfl) | (apply Same.bool; focus (with_reducible rfl)) | (with_reducible apply Frz.l)) <;> conv => whnf) | fail)
theorem tk_snoc {R : List Clm} {a : IP} {k : Nat} (h : k < R.length) : tk (R.take (k + 1)) a = (tk (R.take k) a || (gt R k).ip.1 == a.1) := by
  rw [take_gt h, tk, List.any_append]; simp [tk]
structure FrI (R : List Clm) (a : IP) (v : Int) where
  i : Nat
  hi : i ≤ R.length
  ht : ∀ k, k < i → tk R (ipJ a (seqV v k)) = true
theorem k_rFree (R : List Clm) (p : Pfx) (v : Int) (t : Tg) (hp : vPfx p = true) (hb : p.bits ≤ 64) (hv : isU v) (hR : R.length ≤ 100000) :
    Con Tryz.prog 53 [.fs t 20 (lst clmV R), pfxV p, .v (.int .u64 v)] [] (ipV (ipJ p.ip (seqV v (freeJ R p.ip v)))) [] := by
  have cJ := fun v => k_rJoin p v hp hb
  refine spec_of_run ttok mixed (T0 := 34375472599) (ts := [.cell 6 32]) 39 rfl rfl rfl rfl (by simp) rfl ?_
  conv => whnf
  repeat' (first | ((with_reducible apply Frz.l) <;> conv => whnf) | fail)
  refine loop_keep ttok mixed (T0 := 34375472599) [0] (ι := FrI R p.ip v)
    (fun q => [(4, .pb 0 []), (6, .pb 1 []), (7, .v (.int .u64 (seqV v q.i)))]) (fun q => [.cells (pfxV p), .cells (.ba 16 (List.replicate 16 0))]) (fun q => R.length + 1 - q.i) ⟨0, by omega, none_lt⟩ ?_
  conv => whnf
  repeat' (first | ((apply Same.mk (by simp only [seqV_zero hv])); (conv => whnf)) | ((apply Same.mk rfl); (conv => whnf)) | ((with_reducible apply Frz.l) <;> conv => whnf) | fail)
  rintro ⟨i, hi, ht⟩
  dsimp only
  conv => whnf
  repeat' (first | ((first | ((with_reducible apply Nm.mk); focus ((try simp only [lns]); exact rfl)) | (apply CallN.mk (cJ _)) | (with_reducible apply Frz.l)) <;> conv => whnf) | fail)
  refine loop_keep ttok mixed (T0 := 34375472599) [0, 7, 20, 21] (ι := {k : Nat // k ≤ R.length})
    (fun k => [(4, .pb 0 []), (6, .pb 1 []), (8, .pb 2 []), (10, bool (tk (R.take k.1) (ipJ p.ip (seqV v i)))), (22, int (k.1 : Int))]) (fun k => [.cells (pfxV p), .cells (.ba 16 (List.replicate 16 0)), .cells (ipV (ipJ p.ip (seqV v i)))]) (fun k => R.length - k.1) ⟨0, by omega⟩ ?_
  conv => whnf
  repeat' (first | ((first | (with_reducible apply Same.rfl) | (apply Same.int; focus rfl) | (apply Same.rfl) | (with_reducible apply Frz.l)) <;> conv => whnf) | fail)
  rintro ⟨k, hk⟩
  dsimp only
  conv => whnf
  by_cases hkl : k < R.length
  · have e := tk_snoc (a := ipJ p.ip (seqV v i)) hkl
    repeat' (first | ((first | ((with_reducible apply Nm.mk); focus ((try simp only [lns]); exact rfl)) | ((with_reducible apply Wr.i64); focus omega) | ((with_reducible apply Need.mk); focus (simp only [lns]; omega)) | ((with_reducible apply Elem.lst); focus omega) | (with_reducible first | apply Bif.T | apply Bif.F) | ((with_reducible apply Bif.dec) <;> intro h <;> (try simp only [lns] at h) <;> (try (exfalso; omega))) | ((with_reducible apply Bif.mk) <;> intro h) | (with_reducible apply Frz.l)) <;> conv => whnf) | fail)
    all_goals ((refine ⟨⟨k + 1, by omega⟩, ?_⟩; (try dsimp only); conv => whnf); repeat' (first | with_reducible apply True.intro | ((apply Same.bool (by rw [e]; simp_all)); (conv => whnf)) | ((apply Same.mk rfl); (conv => whnf)) | ((first | ((with_reducible apply Need.mk); focus omega) | (with_reducible apply Turn.l) | (with_reducible apply Frz.l)) <;> conv => whnf) | fail))
  · have ek : R.take k = R := List.take_of_length_le (by omega)
    rw [ek]
    repeat' (first | ((apply Wr.eq (wrapS _ _)); (conv => whnf)) | ((first | ((with_reducible apply Bif.dec) <;> intro h <;> (try simp only [lns] at h) <;> (try (exfalso; omega))) | (with_reducible apply Bif.not) | ((with_reducible apply Bif.mk) <;> intro h) | (with_reducible apply Frz.l)) <;> conv => whnf) | fail)
    · have ht2 : ∀ k, k < i + 1 → tk R (ipJ p.ip (seqV v k)) = true := fun k hk => by
        rcases Nat.lt_or_ge k i with g | g
        · exact ht k g
        · rw [show k = i by omega]; exact h
      have hi2 := tk_all (by omega) ht2
      (refine ⟨⟨i + 1, hi2, ht2⟩, ?_⟩; (try dsimp only); conv => whnf); repeat' (first | with_reducible apply True.intro | ((first | ((with_reducible apply Need.mk); focus omega) | (with_reducible apply Same.rfl) | (with_reducible apply Turn.l) | (with_reducible apply Frz.l)) <;> conv => whnf) | fail)
    · have hf := freeJ_eq (by omega) ht h
      apply Same.mk (by rw [hf])
      conv => whnf
      repeat' (first | with_reducible apply True.intro | ((with_reducible apply Frz.l) <;> conv => whnf) | fail)
end Go.Fw

/- multihopref37.Renumber. -/
namespace Go.Fw
open Go.Proofs
set_option maxHeartbeats 8000000
set_option maxRecDepth 4000
theorem k_yRenumber (n : Net) (now : Int) (p : Pfx) (lost : List Clm) (lt : Int) (hn : NetR n) (hL : lost.length ≤ 1000000) (hU : ∀ c ∈ lost, isU c.eui) :
    Con Tryz.prog 25 [netF n, int now, pfxV p, .fs .no 20 (lst clmV lost), int lt] [] (.tup [netO (renM n now p lost lt).1 0 1, .ov 20 2 0 (renM n now p lost lt).2.1.length, int (renM n now p lost lt).2.2]) (netH (renM n now p lost lt).1 ++ [.arr none 20 (lst clmV (renM n now p lost lt).2.1)]) := by
  have c1 := k_yValid n hn
  have c2 := k_ref04_ValidPrefix p
  by_cases hv : validN n = true ∧ vPfx p = true
  case neg =>
    rw [renM, if_neg (fun h => hv ⟨h.1, h.2.1⟩)]
    refine spec_of_run ttok mixed (T0 := 77771509043702115720383) (ts := [.cell 10 29, .tmp 11, .tmp 12]) 105 rfl rfl rfl rfl (by simp) rfl ?_
    conv => whnf
    repeat' (first | with_reducible apply True.intro | ((first | (apply CallN.mk (c1)) | (apply CallN.mk (c2)) | (with_reducible first | apply Bif.T | apply Bif.F) | (with_reducible apply Bif.not) | ((with_reducible apply Bif.mk) <;> intro h <;> (try (exact absurd ⟨‹_›, ‹_›⟩ hv))) | (with_reducible apply Same.rfl) | (apply Same.int; focus rfl) | (apply Same.rfl) | (with_reducible apply Frz.l)) <;> conv => whnf) | fail)
  rw [hv.1] at c1
  rw [hv.2] at c2
  have hvr := (validN_iff.1 hv.1).2.2.2
  have hlen := validR_len hvr
  have hm12 := (validN_iff.1 hv.1).2.1.2.1
  have hcl := cur_len n.cl now
  refine spec_of_run ttok mixed (T0 := 77771509043702115720383) (ts := [.cell 10 29, .tmp 11, .tmp 12]) 105 rfl rfl rfl rfl (by simp) rfl ?_
  conv => whnf
  repeat' (first | ((first | ((with_reducible apply Nm.mk); focus ((try simp only [lns]); exact rfl)) | (apply CallN.mk (c1)) | (apply CallN.mk (c2)) | (with_reducible first | apply Bif.T | apply Bif.F) | (with_reducible apply Bif.not) | (with_reducible apply Frz.l)) <;> conv => whnf) | fail)
  refine loop_keep ttok mixed (T0 := 77771509043702115720383) [1, 3, 4, 29, 30] (ι := {k : Nat // k ≤ lost.length ∧ ∀ j, j < k → clmOK (gt lost j) = true})
    (fun k => [(5, .pb 0 []), (7, .pb 1 []), (10, .pb 2 []), (31, int (k.1 : Int))]) (fun _ => [.cells (netF n), .cells (pfxV p), .cells netZ]) (fun k => lost.length - k.1) ⟨0, by omega, none_lt⟩ ?_
  conv => whnf
  repeat' (first | ((apply Same.mk rfl); conv => whnf) | ((with_reducible apply Frz.l) <;> conv => whnf) | fail)
  rintro ⟨k, hk, hok⟩
  dsimp only
  conv => whnf
  by_cases hkl : k < lost.length
  · have cV := k_ValidClaim (gt lost k)
    by_cases hc : clmOK (gt lost k) = true
    · rw [hc] at cV
      repeat' (first | ((first | ((with_reducible apply Nm.mk); focus ((try simp only [lns]); exact rfl)) | ((with_reducible apply Wr.i64); focus omega) | ((with_reducible apply Need.mk); focus (simp only [lns]; omega)) | ((with_reducible apply Elem.lst); focus omega) | (apply CallN.mk (cV)) | (with_reducible apply Bif.T) | ((with_reducible apply Bif.dec) <;> intro h <;> (try simp only [lns] at h) <;> (try (exfalso; omega))) | (with_reducible apply Bif.not) | (with_reducible apply Frz.l)) <;> conv => whnf) | fail)
      (refine ⟨⟨k + 1, by omega, step_lt hok hc⟩, ?_⟩; (try dsimp only); conv => whnf); repeat' (first | with_reducible apply True.intro | ((first | ((with_reducible apply Need.mk); focus omega) | (with_reducible apply Same.rfl) | (apply Same.int; focus rfl) | (with_reducible apply Turn.l) | (with_reducible apply Frz.l)) <;> conv => whnf) | fail)
    · rw [renM, if_neg (fun h => hc (List.all_eq_true.1 h.2.2 _ (gt_mem hkl)))]
      rw [Bool.eq_false_iff.2 hc] at cV
      repeat' (first | with_reducible apply True.intro | ((first | ((with_reducible apply Nm.mk); focus ((try simp only [lns]); exact rfl)) | ((with_reducible apply Need.mk); focus (simp only [lns]; omega)) | ((with_reducible apply Elem.lst); focus omega) | (apply CallN.mk (cV)) | (with_reducible apply Bif.F) | ((with_reducible apply Bif.dec) <;> intro h <;> (try simp only [lns] at h) <;> (try (exfalso; omega))) | (with_reducible apply Bif.not) | (with_reducible apply Same.rfl) | (apply Same.int; focus rfl) | (apply Same.rfl) | (with_reducible apply Frz.l)) <;> conv => whnf) | fail)
  · have hall : lost.all clmOK = true := List.all_eq_true.2 fun x hx => by
      obtain ⟨j, hj, rfl⟩ := List.mem_iff_getElem.1 hx
      have := hok j (by omega)
      rwa [gt_eq hj] at this
    have cT := k_IsTime now
    by_cases hr : isTm now ∧ p.bits ≤ 64 ∧ 1 ≤ lt ∧ lt ≤ 1099511627776
    case neg =>
      rw [renM, if_pos ⟨hv.1, hv.2, hall⟩, if_neg hr]
      repeat' (first | with_reducible apply True.intro | ((first | (apply CallN.mk (cT)) | (with_reducible first | apply Bif.T | apply Bif.F) | ((with_reducible apply Bif.dec) <;> intro h <;> (try simp only [lns] at h) <;> (try (exfalso; omega))) | (with_reducible apply Bif.not) | (with_reducible apply Same.rfl) | (apply Same.int; focus rfl) | (apply Same.rfl) | (with_reducible apply Frz.l)) <;> conv => whnf) | fail)
    obtain ⟨hn1, hb, hl1, hl2⟩ := hr
    rw [decide_eq_true hn1] at cT
    have cC := k_refCurrent n.cl .no now (by omega)
    repeat' (first | ((first | ((with_reducible apply Nm.mk); focus ((try simp only [lns]); exact rfl)) | ((with_reducible apply Need.mk); focus first | kernel_rfl | (unfold roomOK; simp only [lns]; omega)) | (apply CallN.mk (cT)) | (apply CallN.mk (cC)) | (with_reducible first | apply Bif.T | apply Bif.F) | ((with_reducible apply Bif.dec) <;> intro h <;> (try simp only [lns] at h) <;> (try (exfalso; omega))) | (with_reducible apply Bif.not) | (with_reducible apply Frz.l)) <;> conv => whnf) | fail)
    have pC : (cur n.cl now).Pairwise byIP := cur_pw hvr now
    have vC : ∀ x ∈ cur n.cl now, clmOK x = true := fun x hx => validR_ok hvr x (List.mem_filter.1 hx).1
    have vL : ∀ x ∈ lost, clmOK x = true := fun x hx => List.all_eq_true.1 hall x hx
    have hren := show renM n now p lost lt = _ from by rw [renM, if_pos ⟨hv.1, hv.2, hall⟩, if_pos ⟨hn1, hb, hl1, hl2⟩]
    rw [hren]
    generalize hD : cur n.cl now = D at *
    have cA := k_After now lt hn1 (by omega)
    refine LoopN.adopt 16 20 rfl (by simp) ?_
    refine LoopN.turn [1, 4, 67, 68, 69] [(5, .pb 0 []), (7, .pb 1 []), (10, .pb 2 []), (15, .pb 3 []), (16, .ov 20 6 0 0)] [.cells (netF n), .cells (pfxV p), .cells netZ, .cells (.agg [idV n.ep n.rt, .ov 1 4 0 n.mem.length, .ov 20 5 0 D.length]), .arr none 1 (lst u64 n.mem), .arr none 20 (lst clmV D), .arr none 20 []] ?_
    conv => whnf
    repeat' (first | ((first | (with_reducible apply Same.rfl) | (with_reducible apply Cut.l) | (with_reducible apply Frz.l)) <;> conv => whnf) | fail)
    refine loop_keep ttok mixed (T0 := 77771509043702115720383) [1, 4, 67, 68] (ι := {j : Nat // j ≤ lost.length ∧ D.length + j ≤ 64})
      (fun j => [(5, .pb 0 []), (7, .pb 1 []), (10, .pb 2 []), (15, .pb 3 []), (16, .ov 20 6 0 (renT now lt p.ip D (lost.take j.1)).2.length), (69, int (j.1 : Int))])
      (fun j => [.cells (netF n), .cells (pfxV p), .cells netZ, .cells (.agg [idV n.ep n.rt, .ov 1 4 0 n.mem.length, .ov 20 5 0 (renT now lt p.ip D (lost.take j.1)).1.length]), .arr none 1 (lst u64 n.mem), .arr none 20 (lst clmV (renT now lt p.ip D (lost.take j.1)).1), .arr none 20 (lst clmV (renT now lt p.ip D (lost.take j.1)).2)]) (fun j => lost.length - j.1) ⟨0, by omega, by omega⟩ ?_
    conv => whnf
    repeat' (first | ((apply Same.mk rfl); conv => whnf) | ((with_reducible apply Frz.l) <;> conv => whnf) | fail)
    rintro ⟨j, hj, hj64⟩
    dsimp only
    conv => whnf
    have hI := renT_ok (a := p.ip) hn1 ⟨hl1, hl2⟩ pC vC (L := lost.take 64) (fun x hx => vL x (List.mem_of_mem_take hx)) (by rw [List.length_take]; omega) j (by rw [List.length_take]; omega)
    rw [List.take_take, Nat.min_eq_left (by omega)] at hI
    have i1 := hI.l1
    have i2 := hI.l2
    rw [List.length_take] at i1 i2
    by_cases hjl : j < lost.length
    · by_cases h64 : D.length + j = 64
      · rw [if_pos (by omega)]
        repeat' (first | with_reducible apply True.intro | ((first | ((with_reducible apply Nm.mk); focus ((try simp only [lns]); exact rfl)) | ((with_reducible apply Need.mk); focus (simp only [lns]; omega)) | ((with_reducible apply Elem.lst); focus omega) | ((with_reducible first | apply Bif.dec | apply Bif.beq) <;> intro h <;> (try simp only [lns] at h) <;> (try (exfalso; omega))) | (with_reducible apply Same.rfl) | (apply Same.int; focus rfl) | (apply Same.rfl) | (with_reducible apply Frz.l)) <;> conv => whnf) | fail)
      · have hstep := renT_step now lt p.ip D hjl
        have hu := hU _ (gt_mem (l := lost) (i := j) hjl)
        generalize renT now lt p.ip D (lost.take j) = s at *
        obtain ⟨C, F⟩ := s
        dsimp only at i1 i2 ⊢
        have cF := k_rFree C p (gt lost j).eui .no hv.2 hb hu (by omega)
        have cI := k_refInsert C .no ⟨ipJ p.ip (seqV (gt lost j).eui (freeJ C p.ip (gt lost j).eui)), (gt lost j).eui, (gt lost j).seq, now, min (now + lt) 1099511627776⟩ (by omega)
        have e1 : (renT now lt p.ip D (lost.take (j + 1))).1 = insM C ⟨ipJ p.ip (seqV (gt lost j).eui (freeJ C p.ip (gt lost j).eui)), (gt lost j).eui, (gt lost j).seq, now, min (now + lt) 1099511627776⟩ := by rw [hstep]; rfl
        have e2 : (renT now lt p.ip D (lost.take (j + 1))).2 = F ++ [⟨ipJ p.ip (seqV (gt lost j).eui (freeJ C p.ip (gt lost j).eui)), (gt lost j).eui, (gt lost j).seq, now, min (now + lt) 1099511627776⟩] := by rw [hstep]; rfl
        have e3 : (renT now lt p.ip D (lost.take (j + 1))).2.length = F.length + 1 := by rw [e2]; simp
        repeat' (first | ((first | ((with_reducible apply Nm.mk); focus ((try simp only [lns]); exact rfl)) | ((with_reducible apply Wr.i64); focus omega) | ((with_reducible apply Need.mk); focus first | (simp only [lns]; omega) | exact CleanP.nil rfl | exact CleanP.lst rfl (fun _ => rfl) | kernel_rfl | (unfold roomOK; simp only [lns]; omega)) | ((with_reducible apply Elem.lst); focus omega) | (apply CallN.mk (cF)) | (apply CallN.mk (cA)) | (apply CallN.mk (cI)) | ((with_reducible first | apply Bif.dec | apply Bif.beq) <;> intro h <;> (try simp only [lns] at h) <;> (try (exfalso; omega))) | (with_reducible first | apply Alt.l | apply GiveN.lend) | (with_reducible apply Frz.l)) <;> conv => whnf) | fail)
        (refine ⟨⟨j + 1, by omega, by omega⟩, ?_⟩; (try dsimp only); conv => whnf); repeat' (first | with_reducible apply True.intro | ((with_reducible apply Turn.r); (conv => whnf)) | ((apply Same.mk (by rw [e1])); (conv => whnf)) | ((apply Same.mk (by rw [e3])); (conv => whnf)) | ((apply Same.mk (by rw [e2]; simp [lst]; rfl)); (conv => whnf)) | ((first | ((with_reducible apply Need.mk); focus omega) | (with_reducible apply Same.rfl) | (apply Same.int; focus rfl) | (with_reducible apply Cut.l) | (with_reducible apply Frz.l)) <;> conv => whnf) | fail)
    · have ej : lost.take j = lost := List.take_of_length_le (by omega)
      rw [ej] at i1 i2 ⊢
      rw [if_neg (by omega)]
      repeat' (first | with_reducible apply True.intro | ((first | ((with_reducible apply Bif.dec) <;> intro h <;> (try simp only [lns] at h) <;> (try (exfalso; omega))) | (with_reducible apply Same.rfl) | (apply Same.int; focus rfl) | (with_reducible apply Cut.l) | (with_reducible apply Frz.l)) <;> conv => whnf) | fail)
end Go.Fw
