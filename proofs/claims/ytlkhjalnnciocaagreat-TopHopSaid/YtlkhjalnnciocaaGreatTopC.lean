/- Reassembly: small functions. -/
import Derived.Test.YtlkhjalnnciocaaGreatRasP
import Derived.Lib.Bytes

namespace Go.Fw
set_option maxRecDepth 4000
open Go.Proofs
set_option maxHeartbeats 4000000
theorem k_addrValid (a : Adr) : Con Tryz.prog 129 [adrV a] [] (bool (vAdr a)) [] := by
  refine spec_of_run ttok mixed (T0 := 33847) (ts := [.tmp 2]) 20 rfl rfl rfl rfl (by simp) rfl ?_
  conv => whnf
  repeat' (first | ((first | ((with_reducible apply Bif.beq) <;> intro h <;> (try simp only [lns] at h)) | (with_reducible apply Frz.l)) <;> conv => whnf) | fail)
  all_goals (apply Same.bool (by rw [Bool.eq_iff_iff]; simp [vAdr] <;> omega); (conv => whnf); repeat' (first | with_reducible apply True.intro | ((with_reducible apply Frz.l) <;> conv => whnf) | fail))
theorem k_place (a : Adr) : Con Tryz.prog 97 [adrV a] [] (bool (someA a)) [] := by
  refine spec_of_run ttok mixed (T0 := 7) (ts := [.tmp 2]) 10 rfl rfl rfl rfl (by simp) rfl ?_
  conv => whnf
  repeat' (first | ((first | (apply CallN.mk (k_addrValid _)) | (with_reducible first | apply Bif.T | apply Bif.F) | ((with_reducible apply Bif.mk) <;> intro h) | (with_reducible apply Frz.l)) <;> conv => whnf) | fail)
  all_goals (apply Same.bool (by rw [Bool.eq_iff_iff]; simp_all [someA]); (conv => whnf); repeat' (first | with_reducible apply True.intro | ((with_reducible apply Frz.l) <;> conv => whnf) | fail))
theorem k_rtime (t : Int) : Con Tryz.prog 172 [int t] [] (bool (decide (isTm t))) [] := by
  refine spec_of_run ttok mixed (T0 := 5) (ts := [.tmp 2]) 9 rfl rfl rfl rfl (by simp) rfl ?_
  conv => whnf
  repeat' (first | ((first | (with_reducible first | apply Bif.T | apply Bif.F) | ((with_reducible apply Bif.dec) <;> intro h <;> (try simp only [lns] at h)) | (with_reducible apply Frz.l)) <;> conv => whnf) | fail)
  all_goals (apply Same.bool (by simp; omega); (conv => whnf); repeat' (first | with_reducible apply True.intro | ((with_reducible apply Frz.l) <;> conv => whnf) | fail))
theorem k_refaddrValid (a : Adr) : Con Tryz.prog 145 [adrV a] [] (bool (vAdr a)) [] := by
  refine spec_of_run ttok mixed (T0 := 1081399) (ts := [.tmp 2]) 25 rfl rfl rfl rfl (by simp) rfl ?_
  conv => whnf
  repeat' (first | ((first | (with_reducible first | apply Bif.T | apply Bif.F) | ((with_reducible apply Bif.beq) <;> intro h <;> (try simp only [lns] at h)) | (with_reducible apply Frz.l)) <;> conv => whnf) | fail)
  all_goals (apply Same.bool (by rw [Bool.eq_iff_iff]; simp [vAdr] <;> omega); (conv => whnf); repeat' (first | with_reducible apply True.intro | ((with_reducible apply Frz.l) <;> conv => whnf) | fail))
theorem k_refSome (a : Adr) : Con Tryz.prog 78 [adrV a] [] (bool (someA a)) [] := by
  refine spec_of_run ttok mixed (T0 := 7) (ts := [.tmp 2]) 10 rfl rfl rfl rfl (by simp) rfl ?_
  conv => whnf
  repeat' (first | ((first | (apply CallN.mk (k_refaddrValid _)) | (with_reducible first | apply Bif.T | apply Bif.F) | ((with_reducible apply Bif.mk) <;> intro h) | (with_reducible apply Frz.l)) <;> conv => whnf) | fail)
  all_goals (apply Same.bool (by rw [Bool.eq_iff_iff]; simp_all [someA]); (conv => whnf); repeat' (first | with_reducible apply True.intro | ((with_reducible apply Frz.l) <;> conv => whnf) | fail))
/-- A fragment, its bytes in a slice of which something is known. -/
abbrev frgT (t : Tg) (f : Frg) : SV := .agg [int f.size, .v (.int .u16 f.tag), int f.off, .fs t 1 (lst b8 f.data)]
theorem k_fValid (f : Frg) (t : Tg) (hl : f.data.length ≤ 9223372036854775807) : Con Tryz.prog 95 [frgT t f] [] (bool (okF f)) [] := by
  refine spec_of_run ttok mixed (T0 := 35184908959759) (ts := [.tmp 2]) 58 rfl rfl rfl rfl (by simp) rfl ?_
  conv => whnf
  repeat' (first | ((first | ((with_reducible apply Nm.mk); focus ((try simp only [lns]); exact rfl)) | ((with_reducible apply Wr.i64); focus omega) | ((with_reducible apply Need.mk); focus omega) | (with_reducible first | apply Bif.T | apply Bif.F) | ((with_reducible first | apply Bif.dec | apply Bif.beq | apply Bif.bne) <;> intro h <;> (try simp only [lns] at h)) | (with_reducible apply Frz.l)) <;> conv => whnf) | fail)
  all_goals (apply Same.bool (by rw [Bool.eq_iff_iff, okF_iff]; simp; omega); (conv => whnf); repeat' (first | with_reducible apply True.intro | ((with_reducible apply Frz.l) <;> conv => whnf) | fail))
theorem k_end (f : Frg) (t : Tg) (h : -1000000 ≤ f.off ∧ f.off ≤ 1000000) (hl : f.data.length ≤ 1000000) : Con Tryz.prog 173 [frgT t f] [] (int (fEnd f)) [] := by
  refine spec_of_run ttok mixed (T0 := 7) (ts := [.tmp 2]) 9 rfl rfl rfl rfl (by simp) rfl ?_
  conv => whnf
  repeat' (first | with_reducible apply True.intro | ((first | ((with_reducible apply Nm.mk); focus ((try simp only [lns]); exact rfl)) | ((with_reducible apply Wr.i64); focus omega) | (apply Same.int; focus rfl) | (with_reducible apply Frz.l)) <;> conv => whnf) | fail)
/-! ### Bytes -/
theorem b8_rows (l : List UInt8) : lst b8 l = bytesRows (l.map fun x => (x.toNat : Int)) := by simp [lst, bytesRows, b8]
theorem b8_nums (l : List UInt8) : Lib.bytesOf (l.map fun x => (x.toNat : Int)) = l := by
  unfold Lib.bytesOf
  rw [List.map_map]
  exact List.map_id'' (fun x => by simp) l
theorem b8_same (a b : List UInt8) : ((strOfNums (a.map fun x => (x.toNat : Int))).toList == (strOfNums (b.map fun x => (x.toNat : Int))).toList) = decide (a = b) := by
  rw [Lib.strOfNums_toList, Lib.strOfNums_toList, b8_nums, b8_nums, Bool.eq_iff_iff]
  simp
theorem k_bytesEqual (a b : List UInt8) (t1 t2 : Tg) : Con Tryz.prog 60 [.fs t1 1 (lst b8 a), .fs t2 1 (lst b8 b)] [] (bool (decide (a = b))) [] := by
  refine spec_of_run ttok mixed (T0 := 19) (ts := [.tmp 4]) 10 rfl rfl rfl rfl (by simp) rfl ?_
  conv => whnf
  repeat' (first | with_reducible apply True.intro | ((apply Byt.mk _ (b8_rows _)); (conv => whnf)) | ((apply Same.bool (b8_same a b)); (conv => whnf)) | ((with_reducible apply Frz.l) <;> conv => whnf) | fail)
/-- In range. -/
abbrev rngF (f : Frg) : Prop := (-1000000 ≤ f.off ∧ f.off ≤ 1000000) ∧ f.data.length ≤ 1000000
theorem okF.rng {f : Frg} (h : okF f = true) : rngF f := by have := okF_iff.1 h; exact ⟨by omega, by omega⟩
theorem ovl_iff {a b : Frg} : ovl a b = true ↔ a.off < b.off + b.data.length ∧ b.off < a.off + a.data.length := by
  rw [ovl, decide_eq_true_eq]; exact Iff.rfl
/-- A buffer, its parts in a slice of which something is known. -/
abbrev bufT (t : Tg) (b : Buf) (rows : List SV) : SV := .agg [adrV b.src, adrV b.dst, .v (.int .u16 b.tag), int b.size, .fs t 4 rows, int b.upto]
theorem k_matches (b : Buf) (t : Tg) (rows : List SV) (s d : Adr) (g z : Int) : Con Tryz.prog 103 [bufT t b rows, adrV s, adrV d, .v (.int .u16 g), int z] [] (bool (decide (b.src = s ∧ b.dst = d ∧ b.tag = g ∧ b.size = z))) [] := by
  refine spec_of_run ttok mixed (T0 := 1279) (ts := [.tmp 10]) 33 rfl rfl rfl rfl (by simp) rfl ?_
  conv => whnf
  repeat' (first | ((apply Bif.of (adr_eq _ _)); (conv => whnf)) | ((first | (with_reducible first | apply Bif.T | apply Bif.F) | ((with_reducible first | apply Bif.dec | apply Bif.beq) <;> intro h <;> (try simp only [lns] at h)) | (with_reducible apply Frz.l)) <;> conv => whnf) | fail)
  all_goals (apply Same.bool (by rw [Bool.eq_iff_iff]; simp_all); (conv => whnf); repeat' (first | with_reducible apply True.intro | ((with_reducible apply Frz.l) <;> conv => whnf) | fail))
end Go.Fw

/- Bytes and numbers: octets.Append, Uint; bytes.Equal. -/
namespace Go.Fw
set_option maxRecDepth 4000
open Go.Proofs
set_option maxHeartbeats 4000000
/-! Parts of slices -/
theorem nm_tail {α : Type} {f : α → SV} {l : List α} {X : Int} {n : Nat} (h : X.toNat = n) : List.take ((lst f l).length - X.toNat) (List.drop X.toNat (lst f l)) = lst f (l.drop n) := by
  rw [h, lst_drop, List.take_of_length_le (by rw [lst_len, List.length_drop, lst_len]; omega)]
theorem nm_mid {α : Type} {f : α → SV} {l : List α} {X Y : Int} {n m : Nat} (h : X.toNat = n) (g : Y.toNat - X.toNat = m) : List.take (Y.toNat - X.toNat) (List.drop X.toNat (lst f l)) = lst f ((l.drop n).take m) := by
  rw [g, h, lst_drop, lst_take]
theorem nm_pre {α : Type} {f : α → SV} {l : List α} {Y : Int} {m : Nat} (g : Y.toNat = m) : List.take (Y.toNat - (((0 : Nat) : Int)).toNat) (List.drop (((0 : Nat) : Int)).toNat (lst f l)) = lst f (l.take m) := by
  rw [show (((0 : Nat) : Int)).toNat = 0 from rfl, g, lst_drop, lst_take, List.drop_zero, Nat.sub_zero]
theorem nm_all {α : Type} {f : α → SV} {l : List α} {n : Nat} (h : n = l.length) : List.take n (List.drop 0 (lst f l)) = lst f l := by
  rw [h, List.drop_zero, List.take_of_length_le (by rw [lst_len]; omega)]
theorem nm_tailN {α : Type} {f : α → SV} {l : List α} {n : Nat} : List.take ((lst f l).length - n) (List.drop n (lst f l)) = lst f (l.drop n) := by
  rw [lst_drop, List.take_of_length_le (by rw [lst_len, List.length_drop, lst_len]; omega)]
theorem nm_appL {α : Type} {f : α → SV} {x r : List α} : List.take ((lst f (x ++ r)).length - x.length) (List.drop x.length (lst f (x ++ r))) = lst f r := by
  rw [nm_tailN]; simp
/-- The n least significant bytes of a number, the most significant one first. -/
def beN (n v : Nat) : List UInt8 := (List.range n).map fun i => UInt8.ofNat (v / 256 ^ (n - 1 - i))
theorem beN_len (n v : Nat) : (beN n v).length = n := by simp [beN]
theorem gt_beN {n v i : Nat} (h : i < n) : gt (beN n v) i = UInt8.ofNat (v / 256 ^ (n - 1 - i)) := by
  rw [gt_eq (by rw [beN_len]; exact h)]; simp [beN]
/-- The number of bytes, the most significant one first. -/
def beV (l : List UInt8) : Nat := l.foldl (fun v c => v * 256 + c.toNat) 0
theorem beV_snoc (l : List UInt8) (c : UInt8) : beV (l ++ [c]) = beV l * 256 + c.toNat := by simp [beV]
theorem beV_lt : ∀ (n : Nat) (l : List UInt8), l.length = n → beV l < 256 ^ n
  | 0, l, h => by rw [List.length_eq_zero_iff.1 h]; simp [beV]
  | n + 1, l, h => by
    have hne : l ≠ [] := fun e => by rw [e] at h; simp at h
    have h1 := beV_lt n l.dropLast (by rw [List.length_dropLast]; omega)
    have h2 := (l.getLast hne).toNat_lt
    rw [← List.dropLast_concat_getLast hne, beV_snoc, Nat.pow_succ]
    omega
theorem pow2_256 (k : Nat) : (2 : Int) ^ (8 * k) = ((256 ^ k : Nat) : Int) := by
  rw [Int.pow_mul]; norm_cast
theorem shrN {v n k : Nat} (h : k < n) (hn : n ≤ 8) : IntKind.wrap .u8 ((v : Int).fdiv (2 ^ min (8 * ((n : Int) - 1 - (k : Int))).toNat IntKind.u64.bits)) = ((UInt8.ofNat (v / 256 ^ (n - 1 - k))).toNat : Int) := by
  have e : min (8 * ((n : Int) - 1 - (k : Int))).toNat IntKind.u64.bits = 8 * (n - 1 - k) := by
    show min _ 64 = _
    omega
  have w8 : ∀ x : Int, IntKind.wrap .u8 x = x % 256 := fun x => by simp [IntKind.wrap, IntKind.bits, IntKind.signed]
  rw [e, pow2_256, Int.fdiv_eq_ediv_of_nonneg _ (Int.natCast_nonneg _), w8, UInt8.toNat_ofNat']
  norm_cast
theorem app_set {b : List UInt8} {n v k : Nat} (h : k < n) : (b ++ (beN n v).take k ++ List.replicate (n - k) 0).set (b.length + k) (UInt8.ofNat (v / 256 ^ (n - 1 - k))) = b ++ (beN n v).take (k + 1) ++ List.replicate (n - (k + 1)) 0 := by
  rw [take_gt (by rw [beN_len]; exact h), gt_beN h, List.set_append_right _ _ (by simp [beN_len]; omega)]
  have e : b.length + k - (b ++ (beN n v).take k).length = 0 := by simp [beN_len]; omega
  rw [e, show n - k = (n - (k + 1)) + 1 by omega, List.replicate_succ, List.set_cons_zero]
  simp
theorem b8_zero0 : SV.v (.int .u8 0) = b8 0 := rfl
theorem app_start (b : List UInt8) (n v : Nat) : [] ++ lst b8 (List.take (b.length + n) b) ++ lst b8 (List.drop (min (b.length + n) b.length) (List.replicate (b.length + n) 0)) = lst b8 (b ++ List.take 0 (beN n v) ++ List.replicate (n - 0) 0) := by
  rw [List.nil_append, lst_app, List.take_of_length_le (by omega), Nat.min_eq_right (by omega), List.drop_replicate, Nat.add_sub_cancel_left]; simp
theorem app_start0 (n v : Nat) : [] ++ List.take n [] ++ lst b8 (List.drop (min n 0) (List.replicate n 0)) = lst b8 (List.take 0 (beN n v) ++ List.replicate (n - 0) 0) := by
  simp
theorem app_stepS {b : List UInt8} {n v k : Nat} (h : k < n) : (lst b8 (b ++ (beN n v).take k ++ List.replicate (n - k) 0)).set ((b.length : Int) + (k : Int)).toNat (SV.v (.int .u8 ((UInt8.ofNat (v / 256 ^ (n - 1 - k))).toNat : Int))) = lst b8 (b ++ (beN n v).take (k + 1) ++ List.replicate (n - (k + 1)) 0) := by
  rw [← app_set h, ← lst_set, show ((b.length : Int) + (k : Int)).toNat = b.length + k by omega]; rfl
theorem app_end (b : List UInt8) (k v : Nat) : lst b8 (b ++ List.take k (beN k v) ++ List.replicate (k - k) 0) = lst b8 (b ++ beN k v) := by
  rw [List.take_of_length_le (by rw [beN_len]; omega), Nat.sub_self]; simp
theorem k_Append (b : List UInt8) (v n : Nat) (t : Tg) (hn : n ≤ 8) (hb : b.length ≤ 1000000) :
    Con Tryz.prog 72 [.fs t 1 (lst b8 b), .v (.int .u64 (v : Int)), int (n : Int)] [] (.ov 1 0 0 (b.length + n)) [.arr (some (b.length + n)) 1 (lst b8 (b ++ beN n v))] := by
  refine spec_of_run ttok mixed (T0 := 58737095) (ts := [.tmp 6]) 43 rfl rfl rfl rfl (by simp) rfl ?_
  conv => whnf
  repeat' (first | ((apply Nm.mk (show ((b.length : Int) + (n : Int)).toNat = b.length + n by omega)); (conv => whnf)) | ((first | (with_reducible apply Nm.rep _ (b8_zero0)) | ((with_reducible apply Nm.mk); focus ((try simp only [lns, beN_len]); exact rfl)) | ((with_reducible apply Wr.i64); focus omega) | ((with_reducible apply Need.mk); focus first | (simp only [lns, beN_len]; omega) | (refine ⟨?_, ?_, ?_⟩ <;> first | omega | (unfold roomOK; omega) | fail)) | (with_reducible apply Bif.F) | ((with_reducible apply Bif.dec) <;> intro h <;> (try simp only [lns, beN_len] at h) <;> (try (exfalso; omega))) | (with_reducible apply Frz.l)) <;> conv => whnf) | fail)
  refine loop_keep ttok mixed (T0 := 58737095) [0, 1, 2, 23] (ι := {k : Nat // k ≤ n})
    (fun k => [(7, .ov 1 0 0 (b.length + n)), (24, int (k.1 : Int))]) (fun k => [.arr (some (b.length + n)) 1 (lst b8 (b ++ (beN n v).take k.1 ++ List.replicate (n - k.1) 0))]) (fun k => n - k.1) ⟨0, by omega⟩ ?_
  conv => whnf
  repeat' (first | ((apply Same.mk (app_start b n v)); (conv => whnf)) | ((first | (with_reducible apply Same.rfl) | (apply Same.int; focus rfl) | (with_reducible apply Frz.l)) <;> conv => whnf) | fail)
  rintro ⟨k, hk⟩
  dsimp only
  conv => whnf
  repeat' (first | ((apply Wr.eq (shrN (v := v) (n := n) (k := k) (by omega) hn)); (conv => whnf)) | ((first | ((with_reducible apply Nm.mk); focus ((try simp only [lns, beN_len]); exact rfl)) | ((with_reducible apply Wr.i64); focus omega) | ((with_reducible apply Need.mk); focus omega) | ((with_reducible apply Elem.lst); focus (simp only [lns, beN_len]; omega)) | ((with_reducible apply Bif.dec) <;> intro h <;> (try simp only [lns, beN_len] at h)) | (with_reducible apply Same.rfl) | (with_reducible apply Frz.l)) <;> conv => whnf) | fail)
  · (refine ⟨⟨k + 1, by omega⟩, ?_⟩; (try dsimp only); conv => whnf); repeat' (first | with_reducible apply True.intro | ((apply Same.mk (app_stepS (by omega))); (conv => whnf)) | ((first | ((with_reducible apply Need.mk); focus omega) | (with_reducible apply Same.rfl) | (apply Same.int; focus rfl) | (with_reducible apply Turn.l) | (with_reducible apply Frz.l)) <;> conv => whnf) | fail)
  · have e : k = n := by omega
    subst e
    repeat' (first | with_reducible apply True.intro | ((apply Same.mk (app_end _ _ _)); (conv => whnf)) | ((with_reducible apply Frz.l) <;> conv => whnf) | fail)
theorem k_Append0 (v n : Nat) (hn : n ≤ 8) :
    Con Tryz.prog 72 [.v (.slice none 0 0), .v (.int .u64 (v : Int)), int (n : Int)] [] (.ov 1 0 0 n) [.arr (some n) 1 (lst b8 (beN n v))] := by
  refine spec_of_run ttok mixed (T0 := 58737095) (ts := [.tmp 6]) 43 rfl rfl rfl rfl (by simp) rfl ?_
  conv => whnf
  repeat' (first | ((apply Nm.mk (show (((0 : Nat) : Int) + (n : Int)).toNat = n by omega)); (conv => whnf)) | ((first | (with_reducible apply Nm.rep _ (b8_zero0)) | ((with_reducible apply Nm.mk); focus ((try simp only [lns, beN_len]); exact rfl)) | ((with_reducible apply Wr.i64); focus omega) | ((with_reducible apply Need.mk); focus first | (simp only [lns, beN_len]; omega) | (refine ⟨?_, ?_, ?_⟩ <;> first | omega | (unfold roomOK; omega) | fail)) | (with_reducible apply Bif.F) | ((with_reducible apply Bif.dec) <;> intro h <;> (try simp only [lns, beN_len] at h) <;> (try (exfalso; omega))) | (with_reducible apply Frz.l)) <;> conv => whnf) | fail)
  refine loop_keep ttok mixed (T0 := 58737095) [0, 1, 2, 23] (ι := {k : Nat // k ≤ n})
    (fun k => [(7, .ov 1 0 0 n), (24, int (k.1 : Int))]) (fun k => [.arr (some n) 1 (lst b8 ((beN n v).take k.1 ++ List.replicate (n - k.1) 0))]) (fun k => n - k.1) ⟨0, by omega⟩ ?_
  conv => whnf
  repeat' (first | ((apply Same.mk (app_start0 n v)); (conv => whnf)) | ((first | (with_reducible apply Same.rfl) | (apply Same.int; focus rfl) | (with_reducible apply Frz.l)) <;> conv => whnf) | fail)
  rintro ⟨k, hk⟩
  dsimp only
  conv => whnf
  repeat' (first | ((apply Wr.eq (shrN (v := v) (n := n) (k := k) (by omega) hn)); (conv => whnf)) | ((first | ((with_reducible apply Nm.mk); focus ((try simp only [lns, beN_len]); exact rfl)) | ((with_reducible apply Wr.i64); focus omega) | ((with_reducible apply Need.mk); focus omega) | ((with_reducible apply Elem.lst); focus (simp only [lns, beN_len]; omega)) | ((with_reducible apply Bif.dec) <;> intro h <;> (try simp only [lns, beN_len] at h)) | (with_reducible apply Same.rfl) | (with_reducible apply Frz.l)) <;> conv => whnf) | fail)
  · (refine ⟨⟨k + 1, by omega⟩, ?_⟩; (try dsimp only); conv => whnf); repeat' (first | with_reducible apply True.intro | ((apply Same.mk (app_stepS (b := []) (by omega))); (conv => whnf)) | ((first | ((with_reducible apply Need.mk); focus omega) | (with_reducible apply Same.rfl) | (apply Same.int; focus rfl) | (with_reducible apply Turn.l) | (with_reducible apply Frz.l)) <;> conv => whnf) | fail)
  · have e : k = n := by omega
    subst e
    repeat' (first | with_reducible apply True.intro | ((apply Same.mk (app_end [] _ _)); (conv => whnf)) | ((with_reducible apply Frz.l) <;> conv => whnf) | fail)
def uintM (b : List UInt8) (at_ n : Int) : Nat × Bool := if 1 ≤ n ∧ n ≤ 8 ∧ 0 ≤ at_ ∧ at_ ≤ b.length - n then (beV ((b.drop at_.toNat).take n.toNat), true) else (0, false)
theorem or_low {x : Nat} {c : UInt8} (h : x < 72057594037927936) : IntKind.wrap .u64 ((BitVec.ofInt (IntKind.bits .u64) (IntKind.wrap .u64 ((x : Int) * 2 ^ min (Int.toNat 8) (IntKind.bits .u64))) ||| BitVec.ofInt (IntKind.bits .u64) (c.toNat : Int)).toNat) = ((x * 256 + c.toNat : Nat) : Int) := by
  have hc := c.toNat_lt
  have e1 : IntKind.wrap .u64 ((x : Int) * 2 ^ min (Int.toNat 8) (IntKind.bits .u64)) = ((x * 256 : Nat) : Int) := by
    show IntKind.wrap .u64 ((x : Int) * 256) = _
    simp [IntKind.wrap, IntKind.bits, IntKind.signed]; omega
  have w : ∀ y : Nat, y < 18446744073709551616 → IntKind.wrap .u64 (y : Int) = (y : Int) := fun y hy => by simp [IntKind.wrap, IntKind.bits, IntKind.signed]; omega
  have e2 : x * 256 ||| c.toNat = x * 256 + c.toNat := by
    rw [show x * 256 = 2 ^ 8 * x by omega]
    exact (Nat.two_pow_add_eq_or_of_lt (i := 8) hc x).symm
  rw [e1, BitVec.toNat_or, show IntKind.bits .u64 = 64 from rfl, BitVec.ofInt_natCast, BitVec.ofInt_natCast, BitVec.toNat_ofNat, BitVec.toNat_ofNat, Nat.mod_eq_of_lt (by omega), Nat.mod_eq_of_lt (by omega), e2, w _ (by omega)]
theorem k_Uint (b : List UInt8) (at_ n : Int) (t : Tg) (hb : b.length ≤ 1000000) (hn : -1000000 ≤ n ∧ n ≤ 1000000) (ha : -1000000 ≤ at_ ∧ at_ ≤ 1000000) :
    Con Tryz.prog 74 [.fs t 1 (lst b8 b), int at_, int n] [] (.tup [.v (.int .u64 ((uintM b at_ n).1 : Int)), bool (uintM b at_ n).2]) [] := by
  by_cases hg : 1 ≤ n ∧ n ≤ 8 ∧ 0 ≤ at_ ∧ at_ ≤ b.length - n
  · obtain ⟨h1, h2, h3, h4⟩ := hg
    obtain ⟨n, rfl⟩ : ∃ m : Nat, n = (m : Int) := ⟨n.toNat, by omega⟩
    obtain ⟨a, rfl⟩ : ∃ m : Nat, at_ = (m : Int) := ⟨at_.toNat, by omega⟩
    rw [uintM, if_pos ⟨h1, h2, h3, h4⟩, Int.toNat_natCast, Int.toNat_natCast]
    dsimp only
    generalize hl : (b.drop a).take n = l
    have hll : l.length = n := by rw [← hl]; simp; omega
    refine spec_of_run ttok mixed (T0 := 257966474695) (ts := [.tmp 6, .tmp 7]) 47 rfl rfl rfl rfl (by simp) rfl ?_
    conv => whnf
    repeat' (first | ((apply Nm.mk (show ((lst b8 b).drop (a : Int).toNat).take (((a : Int) + (n : Int)).toNat - (a : Int).toNat) = lst b8 l by rw [← hl, ← lst_take, ← lst_drop]; congr 1; omega)); (conv => whnf)) | ((first | ((with_reducible apply Nm.mk); focus ((try simp only [lns, beN_len]); exact rfl)) | ((with_reducible apply Wr.i64); focus omega) | ((with_reducible apply Need.mk); focus (simp only [lns, beN_len]; omega)) | (with_reducible apply Bif.F) | ((with_reducible apply Bif.dec) <;> intro h <;> (try simp only [lns, beN_len] at h) <;> (try (exfalso; omega))) | (with_reducible apply Frz.l)) <;> conv => whnf) | fail)
    refine loop_keep ttok mixed (T0 := 257966474695) [34, 35] (ι := {k : Nat // k ≤ n})
      (fun k => [(8, .v (.int .u64 ((beV (l.take k.1) : Nat) : Int))), (36, int (k.1 : Int))]) (fun _ => []) (fun k => n - k.1) ⟨0, by omega⟩ ?_
    conv => whnf
    repeat' (first | ((first | (with_reducible apply Same.rfl) | (apply Same.int; focus rfl) | (with_reducible apply Frz.l)) <;> conv => whnf) | fail)
    rintro ⟨k, hk⟩
    dsimp only
    conv => whnf
    by_cases hkn : k < n
    · have hlt := beV_lt k (l.take k) (by simp; omega)
      have hp : (256 : Nat) ^ k ≤ 256 ^ 7 := Nat.pow_le_pow_right (by decide) (by omega)
      have ew : IntKind.wrap .u64 ((gt l k).toNat : Int) = ((gt l k).toNat : Int) := by have := (gt l k).toNat_lt; simp [IntKind.wrap, IntKind.bits, IntKind.signed]; omega
      have e : beV (l.take (k + 1)) = beV (l.take k) * 256 + (gt l k).toNat := by rw [take_gt (by omega), beV_snoc]
      repeat' (first | ((with_reducible apply Wr.i64); (focus omega); (conv => whnf)) | ((apply Wr.mk); (conv => whnf)) | ((first | ((with_reducible apply Nm.mk); focus ((try simp only [lns, beN_len]); exact rfl)) | ((with_reducible apply Need.mk); focus first | omega | (simp only [lns, beN_len]; omega)) | ((with_reducible apply Elem.lst); focus omega) | ((with_reducible apply Bif.dec) <;> intro h <;> (try simp only [lns, beN_len] at h) <;> (try (exfalso; omega))) | (with_reducible apply Frz.l)) <;> conv => whnf) | fail)
      (refine ⟨⟨k + 1, by omega⟩, ?_⟩; (try dsimp only); conv => whnf); repeat' (first | with_reducible apply True.intro | ((apply Same.mk (by rw [e, ew, or_low (by omega)])); (conv => whnf)) | ((first | ((with_reducible apply Need.mk); focus omega) | (with_reducible apply Same.rfl) | (apply Same.int; focus rfl) | (with_reducible apply Turn.l) | (with_reducible apply Frz.l)) <;> conv => whnf) | fail)
    · obtain rfl : k = n := by omega
      rw [List.take_of_length_le (by omega)]
      repeat' (first | with_reducible apply True.intro | ((first | ((with_reducible apply Bif.dec) <;> intro h <;> (try simp only [lns, beN_len] at h) <;> (try (exfalso; omega))) | (with_reducible apply Same.rfl) | (apply Same.bool; focus (with_reducible rfl)) | (with_reducible apply Frz.l)) <;> conv => whnf) | fail)
  · rw [uintM, if_neg hg]
    refine spec_of_run ttok mixed (T0 := 257966474695) (ts := [.tmp 6, .tmp 7]) 47 rfl rfl rfl rfl (by simp) rfl ?_
    conv => whnf
    repeat' (first | with_reducible apply True.intro | ((first | ((with_reducible apply Nm.mk); focus ((try simp only [lns, beN_len]); exact rfl)) | ((with_reducible apply Wr.i64); focus omega) | (with_reducible first | apply Bif.T | apply Bif.F) | ((with_reducible apply Bif.dec) <;> intro h <;> (try simp only [lns, beN_len] at h) <;> (try (exfalso; omega))) | (apply Same.int; focus rfl) | (apply Same.bool; focus (with_reducible rfl)) | (with_reducible apply Frz.l)) <;> conv => whnf) | fail)
end Go.Fw

/- The CRC as a law of numbers: a burst of at most 16 bits is seen. -/
namespace Go.Fw
set_option maxRecDepth 4000
set_option maxHeartbeats 4000000
/-- One step of the CRC. -/
def zs (t : Nat) : Nat := (t >>> 1) ^^^ (if t % 2 = 1 then 33800 else 0)
def zi : Nat → Nat → Nat
  | 0, t => t
  | k + 1, t => zi k (zs t)
theorem zi_add : ∀ (j k t : Nat), zi (j + k) t = zi k (zi j t)
  | 0, k, t => by rw [Nat.zero_add]; rfl
  | j + 1, k, t => by rw [show j + 1 + k = (j + k) + 1 by omega, zi, zi_add]; rfl
theorem zs_lt {t : Nat} (h : t < 65536) : zs t < 65536 := by
  unfold zs
  have h1 : t >>> 1 < 2 ^ 16 := by rw [Nat.shiftRight_eq_div_pow]; omega
  exact Nat.xor_lt_two_pow (n := 16) h1 (by split <;> decide)
theorem zi_lt : ∀ (k : Nat) {t : Nat}, t < 65536 → zi k t < 65536
  | 0, _, h => h
  | k + 1, _, h => zi_lt k (zs_lt h)
/-- The CRC, byte after byte. -/
def crcF (s : Nat) (l : List UInt8) : Nat := l.foldl (fun s c => zi 8 (s ^^^ c.toNat)) s
theorem crcF_lt : ∀ (l : List UInt8) {s : Nat}, s < 65536 → crcF s l < 65536
  | [], _, h => h
  | c :: r, s, h => crcF_lt r (zi_lt 8 (Nat.xor_lt_two_pow (n := 16) h (by have := c.toNat_lt; omega)))
/-- checksum.Check: the last two bytes are the CRC of those before. -/
def crcOK (b : List UInt8) : Bool := decide (2 ≤ b.length ∧ (gt b (b.length - 2)).toNat = crcF 0 (b.take (b.length - 2)) % 256 ∧ (gt b (b.length - 1)).toNat = crcF 0 (b.take (b.length - 2)) / 256)
def crcA (b : List UInt8) : List UInt8 := b ++ [UInt8.ofNat (crcF 0 b), UInt8.ofNat (crcF 0 b / 256)]
theorem crcA_len (b : List UInt8) : (crcA b).length = b.length + 2 := by simp [crcA]
theorem crcOK_A (b : List UInt8) : crcOK (crcA b) = true := by
  have hl := crcF_lt b (s := 0) (by decide)
  rw [crcOK, decide_eq_true_eq, crcA_len, show b.length + 2 - 2 = b.length by omega, show b.length + 2 - 1 = b.length + 1 by omega]
  have e1 : (crcA b).take b.length = b := by unfold crcA; simp
  have e2 : gt (crcA b) b.length = UInt8.ofNat (crcF 0 b) := by unfold crcA; rw [gt_app, if_neg (by omega), Nat.sub_self]; rfl
  have e3 : gt (crcA b) (b.length + 1) = UInt8.ofNat (crcF 0 b / 256) := by unfold crcA; rw [gt_app, if_neg (by omega), show b.length + 1 - b.length = 1 by omega]; rfl
  rw [e1, e2, e3, UInt8.toNat_ofNat', UInt8.toNat_ofNat']
  omega
end Go.Fw
