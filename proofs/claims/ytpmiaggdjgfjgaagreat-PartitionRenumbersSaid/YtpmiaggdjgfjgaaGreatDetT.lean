/- DetectionFills: the plain law and the walk. -/
import Derived.Test.YtpmiaggdjgfjgaaGreatDetR
namespace Go.Fw
open Go.Proofs
set_option maxHeartbeats 4000000
set_option maxRecDepth 4000
theorem ipQ_ok (x : Int) : (List.set [0, 0, 0, 0, 0, 0, 0, 0, 0, 0, 0, 0, 0, 0, 0, 0] 0 (x % 256)).length = 16 ∧ ∀ z ∈ List.set [0, 0, 0, 0, 0, 0, 0, 0, 0, 0, 0, 0, 0, 0, 0, 0] 0 (x % 256), 0 ≤ z ∧ z ≤ 255 := byt_set (by decide) (by omega)
def ipQ (x : Int) : IP := ⟨List.set [0, 0, 0, 0, 0, 0, 0, 0, 0, 0, 0, 0, 0, 0, 0, 0] 0 (x % 256), ipQ_ok x⟩
theorem ipQ_v {x : Int} (h : 0 ≤ x ∧ x ≤ 255) : ipV (ipQ x) = SV.ba 16 (List.set [0, 0, 0, 0, 0, 0, 0, 0, 0, 0, 0, 0, 0, 0, 0, 0] 0 x) := by
  show SV.ba 16 (List.set _ 0 (x % 256)) = _
  rw [show x % 256 = x by omega]
theorem ipQ_lt {x y : Int} (h : 0 ≤ x ∧ x < y ∧ y ≤ 255) : cmpIP (ipQ x) (ipQ y) < 0 := by
  have := cmpB_lt (a := (ipQ x).1) (b := (ipQ y).1) (i := 0) (by rw [(ipQ x).2.1]; omega) (by rw [(ipQ y).2.1]; omega) (fun j hj => by omega) (by show x % 256 < y % 256; omega)
  unfold cmpIP
  omega
theorem ipQ_ne {x y : Int} (hx : 0 ≤ x ∧ x ≤ 255) (hy : 0 ≤ y ∧ y ≤ 255) (h : x ≠ y) : ipQ x ≠ ipQ y := fun e => by
  have h1 : gt (ipQ x).1 0 = gt (ipQ y).1 0 := by rw [e]
  have h2 : x % 256 = y % 256 := h1
  omega
def flC (eui : Int) (i : Nat) : Clm := ⟨ipQ (3 * i), eui, 1, 0, 10 + i⟩
def flS (eui : Int) (k : Nat) : List Clm := (List.range k).map (flC eui)
theorem flS_len (eui : Int) (k : Nat) : (flS eui k).length = k := by simp [flS]
theorem flS_snoc (eui : Int) (k : Nat) : flS eui (k + 1) = flS eui k ++ [flC eui k] := by simp [flS, List.range_succ]
theorem flS_gt {eui : Int} {k i : Nat} (h : i < k) : gt (flS eui k) i = flC eui i := by
  rw [gt_eq (by rw [flS_len]; exact h)]; simp [flS]
theorem flS_mem {eui : Int} {k : Nat} {x : Clm} (h : x ∈ flS eui k) : ∃ i, i < k ∧ x = flC eui i := by
  obtain ⟨i, hi, rfl⟩ := List.mem_map.1 h
  exact ⟨i, List.mem_range.1 hi, rfl⟩
theorem flS_pw {eui : Int} {k : Nat} (hk : k ≤ 64) : (flS eui k).Pairwise byIP := by
  rw [List.pairwise_iff_getElem]
  intro i j hi hj hij
  rw [← gt_eq hi, ← gt_eq hj]
  rw [flS_len] at hi hj
  rw [flS_gt hi, flS_gt hj]
  exact ipQ_lt (by omega)
theorem flS_valid {eui : Int} (he : eui ≠ 0) {k : Nat} (hk : k ≤ 64) : validR (flS eui k) = true :=
  validR_mk (by rw [flS_len]; exact hk) (fun c hc => by
    obtain ⟨i, hi, rfl⟩ := flS_mem hc
    exact decide_eq_true (show eui ≠ 0 ∧ (0 : Int) ≤ 1 ∧ (1 : Int) ≤ 1073741824 ∧ (0 : Int) ≤ 0 ∧ (0 : Int) ≤ 1099511627776 ∧ (0 : Int) ≤ 10 + (i : Int) ∧ 10 + (i : Int) ≤ 1099511627776 ∧ (0 : Int) ≤ 10 + (i : Int) by omega)) (flS_pw hk)
theorem flS_cur {eui : Int} {k : Nat} {now : Int} (hn : now ≤ 9) : cur (flS eui k) now = flS eui k :=
  List.filter_eq_self.2 fun r hr => by
    obtain ⟨i, hi, rfl⟩ := flS_mem hr
    have hh : ¬ (flC eui i).upto ≤ now := by show ¬ 10 + (i : Int) ≤ now; omega
    simp [hh]
theorem flS_cur10 (eui : Int) : (cur (flS eui 64) 10).length = 63 := by
  have e : flS eui 64 = flC eui 0 :: ((List.range 63).map (· + 1)).map (flC eui) := by
    unfold flS
    rw [show (64 : Nat) = 63 + 1 from rfl, List.range_succ_eq_map, List.map_cons]
  have e2 : cur (flS eui 64) 10 = ((List.range 63).map (· + 1)).map (flC eui) := by
    rw [e]
    unfold cur
    rw [List.filter_cons_of_neg (by simp [flC])]
    refine List.filter_eq_self.2 fun r hr => ?_
    obtain ⟨i, hi, rfl⟩ := List.mem_map.1 hr
    obtain ⟨j, hj, rfl⟩ := List.mem_map.1 hi
    have hh : ¬ (flC eui (j + 1)).upto ≤ 10 := by show ¬ 10 + ((j + 1 : Nat) : Int) ≤ 10; omega
    simp [hh]
  rw [e2]
  simp
theorem req_new {r : List Clm} {now : Int} {ip : IP} {eui seq life : Int} (hg : reqGood r now eui seq life) (hne : ∀ x ∈ cur r now, x.ip ≠ ip) (hl : life ≠ 0) :
    reqM r now ip eui seq life = if (cur r now).length ≥ 64 then (cur r now, 2, 0) else ((cur r now).take (reqAt r now ip) ++ [⟨ip, eui, seq, now, min (now + life) 1099511627776⟩] ++ (cur r now).drop (reqAt r now ip), 0, 0) := by
  have hf : reqFound r now ip = false := by
    unfold reqFound bsF
    cases hb : (decide (bsA (fun c : Clm => cmpIP c.ip ip) (cur r now) < (cur r now).length) && cmpIP (gt (cur r now) (bsA (fun c : Clm => cmpIP c.ip ip) (cur r now))).ip ip == 0)
    · rfl
    · exfalso
      simp only [Bool.and_eq_true, decide_eq_true_eq, beq_iff_eq] at hb
      exact hne _ (gt_mem hb.1) (cmpIP_zero hb.2)
  rw [reqM, if_pos hg, hf, if_neg (by simp), if_neg hl]
theorem fl_step {eui : Int} (he : eui ≠ 0) {k : Nat} (hk : k < 64) : reqM (flS eui k) 0 (ipQ (3 * k)) eui 1 (10 + k) = (flS eui (k + 1), 0, 0) := by
  have hlt : ∀ i, i < k → cmpIP (gt (flS eui k) i).ip (ipQ (3 * k)) < 0 := fun i hi => by rw [flS_gt hi]; exact ipQ_lt (by omega)
  rw [req_new ⟨flS_valid he (by omega), he, by omega, by omega, by omega⟩ ?_ (by omega), flS_cur (by omega), flS_len, if_neg (by omega)]
  · have hat : reqAt (flS eui k) 0 (ipQ (3 * k)) = k := by
      unfold reqAt
      rw [flS_cur (by omega)]
      exact bsA_eq (by rw [flS_len]; exact Nat.le_refl k) hlt (fun h => by rw [flS_len] at h; omega)
    have hl := flS_len eui k
    rw [hat, List.take_of_length_le (by omega), List.drop_of_length_le (by omega), List.append_nil, flS_snoc]
    congr 3
    simp only [flC, Clm.mk.injEq, true_and]
    omega
  · intro x hx e
    rw [flS_cur (by omega)] at hx
    obtain ⟨i, hi, rfl⟩ := mem_gt hx
    rw [flS_len] at hi
    have := hlt i hi
    rw [e, cmpIP_refl] at this
    omega
theorem fl_apart {eui : Int} {m : Int} (hm : 0 ≤ m ∧ m < 64) : ∀ x ∈ flS eui 64, x.ip ≠ ipQ (3 * m + 1) := fun x hx => by
  obtain ⟨i, hi, rfl⟩ := flS_mem hx
  exact ipQ_ne (by omega) (by omega) (by omega)
theorem fl_full {eui : Int} (he : eui ≠ 0) {m : Int} (hm : 0 ≤ m ∧ m < 64) : reqM (flS eui 64) 9 (ipQ (3 * m + 1)) eui 1 5 = (flS eui 64, 2, 0) := by
  rw [req_new ⟨flS_valid he (by omega), he, by omega, by omega, by omega⟩ ?_ (by omega), flS_cur (by omega), flS_len, if_pos (by omega)]
  rw [flS_cur (by omega)]
  exact fl_apart hm
theorem fl_space {eui : Int} (he : eui ≠ 0) {m : Int} (hm : 0 ≤ m ∧ m < 64) : (reqM (flS eui 64) 10 (ipQ (3 * m + 1)) eui 1 5).2 = (0, 0) ∧ (reqM (flS eui 64) 10 (ipQ (3 * m + 1)) eui 1 5).1.length = 64 := by
  have h63 := flS_cur10 eui
  rw [req_new ⟨flS_valid he (by omega), he, by omega, by omega, by omega⟩ (fun x hx => fl_apart hm x (List.mem_filter.1 hx).1) (by omega), if_neg (by omega)]
  refine ⟨rfl, ?_⟩
  have := bsA_le (fun c => cmpIP c.ip (ipQ (3 * m + 1))) (cur (flS eui 64) 10)
  simp only [List.length_append, List.length_take, List.length_drop, List.length_singleton, reqAt]
  omega
theorem MrgOK.plain {R : List Clm} (h : R.Pairwise byIP) : MrgOK R R [] := by
  have hone : ∀ x ∈ R, ∀ y ∈ R, y.ip = x.ip → y = x := fun x hx y hy e => by
    obtain ⟨i, hi, rfl⟩ := mem_gt hx
    obtain ⟨j, hj, rfl⟩ := mem_gt hy
    rw [List.pairwise_iff_getElem] at h
    rcases Nat.lt_trichotomy i j with g | g | g
    · have := h i j hi hj g
      rw [← gt_eq hi, ← gt_eq hj] at this
      unfold byIP at this
      rw [e, cmpIP_refl] at this
      omega
    · rw [g]
    · have := h j i hj hi g
      rw [← gt_eq hi, ← gt_eq hj] at this
      unfold byIP at this
      rw [e, cmpIP_refl] at this
      omega
  have hbest : ∀ x, x ∈ R ↔ bestIn R x := fun x => ⟨fun hx => ⟨hx, fun y hy e => by rw [hone x hx y hy e]; exact bet_irr x⟩, fun hx => hx.1⟩
  refine ⟨h, hbest, .nil, fun x => ⟨fun hx => by simp at hx, ?_⟩⟩
  rintro ⟨hx, r, hr, e1, e2⟩
  exact absurd (by rw [hone x hx r hr.1 e1]) e2
theorem MrgOK.plus {R : List Clm} {c : Clm} (h : R.Pairwise byIP) (hn : ∀ x ∈ R, x.ip ≠ c.ip) : MrgOK (R ++ [c]) (insM R c) [] :=
  (MrgOK.plain (insM_pw h hn)).congr fun x => by rw [insM_mem, List.mem_append, List.mem_singleton]
def flN (eui m : Int) : Clm := ⟨ipQ (3 * m + 1), eui, 0, 0, 9⟩
theorem flN_valid {eui : Int} (he : eui ≠ 0) (m : Int) : validR [flN eui m] = true :=
  validR_mk (by simp) (fun c hc => by
    rw [List.mem_singleton.1 hc]
    exact decide_eq_true (show eui ≠ 0 ∧ (0 : Int) ≤ 0 ∧ (0 : Int) ≤ 1073741824 ∧ (0 : Int) ≤ 0 ∧ (0 : Int) ≤ 1099511627776 ∧ (0 : Int) ≤ 9 ∧ (9 : Int) ≤ 1099511627776 ∧ (0 : Int) ≤ 9 by omega)) (by simp)
theorem fl_merge8 {eui : Int} (he : eui ≠ 0) {m : Int} (hm : 0 ≤ m ∧ m < 64) : mergeM (flS eui 64) [flN eui m] 8 = ([], [], 10) := by
  have hc : cur [flN eui m] 8 = [flN eui m] := by simp [cur, flN]
  rw [mergeM, if_pos ⟨flS_valid he (by omega), flN_valid he m⟩, if_pos (by omega), flS_cur (by omega), hc, mrgP_eq (MrgOK.plus (flS_pw (by omega)) (fl_apart hm)), mrgE, if_pos]
  show (insM (flS eui 64) (flN eui m)).length > 64
  have := flS_len eui 64
  simp only [insM, List.length_append, List.length_take, List.length_drop, List.length_singleton]
  omega
theorem fl_merge9 {eui : Int} (he : eui ≠ 0) (m : Int) : mergeM (flS eui 64) [flN eui m] 9 = (flS eui 64, [], 0) := by
  have hc : cur [flN eui m] 9 = [] := by simp [cur, flN]
  rw [mergeM, if_pos ⟨flS_valid he (by omega), flN_valid he m⟩, if_pos (by omega), flS_cur (by omega), hc, List.append_nil, mrgP_eq (MrgOK.plain (flS_pw (by omega))), mrgE, if_neg]
  show ¬ (flS eui 64).length > 64
  rw [flS_len]
  omega
end Go.Fw
