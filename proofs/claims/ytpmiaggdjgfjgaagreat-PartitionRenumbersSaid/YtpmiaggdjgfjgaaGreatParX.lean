/- The reference's Mask. -/
import Derived.Test.YtpmiaggdjgfjgaaGreatParU

namespace Go.Fw
set_option maxRecDepth 4000
open Go.Proofs
set_option maxHeartbeats 4000000
/-! The reference's Mask -/
theorem or_all : ∀ (x : Fin 256) (r : Fin 8), IntKind.wrap .u8 ((x.1 : Int).fdiv (2 ^ (7 - r.1)) % 2 * 2 ^ (min (7 - r.1) 8)) = (x.1 : Int).fdiv (2 ^ (7 - r.1)) % 2 * 2 ^ (7 - r.1) ∧
    IntKind.wrap .u8 ((BitVec.ofInt 8 (cutB (x.1 : Int) (r.1 : Int)) ||| BitVec.ofInt 8 ((x.1 : Int).fdiv (2 ^ (7 - r.1)) % 2 * 2 ^ (7 - r.1))).toNat) = cutB (x.1 : Int) ((r.1 : Int) + 1) := by decide +kernel
theorem maskL_zero (a : IP) : maskL a.1 0 = List.replicate 16 0 := by
  apply List.ext_getElem?
  intro i
  by_cases hi : i < 16
  · rw [List.getElem?_replicate, if_pos hi, List.getElem?_eq_getElem (by rw [maskL_len]; exact hi), ← gt_eq, gt_maskL hi]
    have := byte_gt (a := a) hi
    have e : keepN 0 i = 0 := by unfold keepN; omega
    rw [e]
    congr 1
    simp only [cutB, Int.toNat_zero, Nat.sub_zero]
    omega
  · rw [List.getElem?_eq_none (by rw [maskL_len]; omega), List.getElem?_eq_none (by simp; omega)]
theorem maskL_step (a : IP) {i : Nat} (hi : i < 128) : (maskL a.1 i).set (i / 8) (cutB (gt a.1 (i / 8)) ((i % 8 : Nat) + 1)) = maskL a.1 ((i : Int) + 1) := by
  apply ext_gt (by simp [maskL_len])
  intro j hj
  rw [List.length_set, maskL_len] at hj
  rw [gt_set (by rw [maskL_len]; omega), gt_maskL hj, gt_maskL hj]
  split
  · rename_i h; subst h
    congr 1
    unfold keepN; omega
  · congr 1
    unfold keepN; omega
theorem k_ref04_Mask (a : IP) (b : Int) : Con Tryz.prog 10 [ipV a, int b] [] (pfxV (maskP a b)) [] := by
  refine spec_of_run ttok mixed (T0 := 16503) (ts := [.cell 4 34]) 34 rfl rfl rfl rfl (by simp) rfl ?_
  conv => whnf
  repeat' (first | ((with_reducible apply Frz.l) <;> conv => whnf) | fail)
  obtain ⟨c, hc⟩ : ∃ c, c = min (max b 0) 128 := ⟨_, rfl⟩
  refine loop_keep ttok mixed (T0 := 16503) [] (ι := {k : Nat // k ≤ c})
    (fun k => [(6, int (k.1 : Int)), (1, int c), (2, .pb 0 []), (4, .pb 1 []), (5, .pb 2 [])]) (fun k => [.cells (ipV a), .cells (pfxV pfx0), .cells (.agg [.ba 16 (maskL a.1 k.1), .v (.int .i64 c)])]) (fun k => (c - k.1).toNat) ⟨0, by omega⟩ ?_
  conv => whnf
  repeat' (first | ((apply Same.mk (by rw [show ((0 : Nat) : Int) = 0 from rfl, maskL_zero, hc]; rfl)); (conv => whnf)) | ((apply Same.mk (by rw [hc]; rfl)); (conv => whnf)) | ((first | (with_reducible apply Same.rfl) | (apply Same.int; focus rfl) | (apply Same.rfl) | (with_reducible apply Frz.l)) <;> conv => whnf) | fail)
  rintro ⟨k, hk⟩
  dsimp only
  by_cases hkc : k < c
  · have e1 : (k : Int).tdiv 8 = ((k / 8 : Nat) : Int) := by rw [Int.tdiv_eq_ediv_of_nonneg (by omega)]; omega
    have e2 : (k : Int).tmod 8 = ((k % 8 : Nat) : Int) := by rw [Int.tmod_eq_emod_of_nonneg (by omega)]; omega
    have hw1 : IntKind.wrap .i64 ((k : Int).tdiv 8) = ((k / 8 : Nat) : Int) := by rw [e1, wrap64_id (by omega)]
    have hw2 : IntKind.wrap .u64 ((k : Int).tmod 8) = ((k % 8 : Nat) : Int) := by rw [e2]; simp [IntKind.wrap, IntKind.bits, IntKind.signed]; omega
    have e3 : ((7 : Int) - ((k % 8 : Nat) : Int)).toNat = 7 - k % 8 := by omega
    have hb := byte_gt (a := a) (i := k / 8) (by omega)
    obtain ⟨y, hy⟩ := fin_ex (n := 256) (x := gt a.1 (k / 8)) (by omega)
    have hor := or_all y ⟨k % 8, by omega⟩
    rw [← hy] at hor
    have hw3 : IntKind.wrap .u8 (bitI a k * 2 ^ (min ((7 : Int) - ((k % 8 : Nat) : Int)).toNat (IntKind.bits .u8))) = bitI a k * 2 ^ (7 - k % 8) := by rw [e3]; exact hor.1
    have hst : (maskL a.1 k).set (k / 8) (IntKind.wrap .u8 ((BitVec.ofInt (IntKind.bits .u8) ((maskL a.1 k).getD (k / 8) 0) ||| BitVec.ofInt (IntKind.bits .u8) (bitI a k * 2 ^ (7 - k % 8))).toNat)) = maskL a.1 ((k : Int) + 1) := by
      rw [← maskL_step a (by omega), ← hor.2]
      have : (maskL a.1 k).getD (k / 8) 0 = cutB (gt a.1 (k / 8)) ((k % 8 : Nat) : Int) := by
        rw [show (maskL a.1 k).getD (k / 8) 0 = gt (maskL a.1 k) (k / 8) from rfl, gt_maskL (by omega)]
        congr 1
        unfold keepN; omega
      rw [this]
      rfl
    conv => whnf
    repeat' (first | ((apply Wr.eq hw1); (conv => whnf)) | ((apply Wr.eq hw2); (conv => whnf)) | ((apply Wr.eq hw3); (conv => whnf)) | ((first | ((with_reducible apply Nm.mk); focus ((try simp only [lns]); exact rfl)) | ((with_reducible first | apply Wr.i64 | apply Wr.u64); focus omega) | ((with_reducible apply Need.mk); focus first | omega | kernel_rfl) | (apply CallN.mk (k_bit _ k (by omega))) | ((with_reducible apply Bif.dec) <;> intro h <;> (try simp only [lns] at h) <;> (try (exfalso; omega))) | (with_reducible apply Frz.l)) <;> conv => whnf) | fail)
    all_goals ((refine ⟨⟨k + 1, by omega⟩, ?_⟩; (try dsimp only); conv => whnf); repeat' (first | with_reducible apply True.intro | ((apply Same.mk (by rw [hst]; rfl)); (conv => whnf)) | ((first | ((with_reducible apply Need.mk); focus omega) | (with_reducible apply Same.rfl) | (apply Same.int; focus rfl) | (with_reducible apply Turn.l) | (with_reducible apply Frz.l)) <;> conv => whnf) | fail))
  · obtain rfl : c = (k : Int) := by omega
    have hm : maskL a.1 k = (maskP a b).ip.1 := by show _ = maskL a.1 (min (max b 0) 128); rw [← hc]
    have hm2 : (k : Int) = (maskP a b).bits := hc
    conv => whnf
    repeat' (first | with_reducible apply True.intro | ((apply Same.mk (by rw [hm]; rfl)); (conv => whnf)) | ((apply Same.int hm2); (conv => whnf)) | ((first | ((with_reducible apply Bif.dec) <;> intro h <;> (try simp only [lns] at h) <;> (try (exfalso; omega))) | (with_reducible apply Frz.l)) <;> conv => whnf) | fail)
end Go.Fw

/- Renumber: what it leaves is valid; both sides are compared. -/
namespace Go.Fw
open Go.Proofs
set_option maxHeartbeats 8000000
set_option maxRecDepth 4000
theorem renM_len (n : Net) (now : Int) (p : Pfx) (lost : List Clm) (lt : Int) (hl : lost.length ≤ 1000) : (renM n now p lost lt).1.mem.length ≤ n.mem.length ∧ (renM n now p lost lt).1.cl.length ≤ 64 ∧ (renM n now p lost lt).2.1.length ≤ 1000 := by
  unfold renM
  split
  · rename_i hv
    split
    · rename_i hr
      split
      · simp [net0]
      · have hvr := (validN_iff.1 hv.1).2.2.2
        have hcl := cur_len n.cl now
        have hT := renT_ok (a := p.ip) (lt := lt) hr.1 hr.2.2 (cur_pw hvr now) (fun x hx => validR_ok hvr x (List.mem_filter.1 hx).1) (L := lost) (fun x hx => List.all_eq_true.1 hv.2.2 x hx) (by omega) lost.length (Nat.le_refl _)
        rw [List.take_length] at hT
        have h1 := hT.l1
        have h2 := hT.l2
        exact ⟨Nat.le_refl _, by dsimp only; omega, by dsimp only; omega⟩
    · simp [net0]
  · simp [net0]
theorem renM_valid {n : Net} {now : Int} {p : Pfx} {lost : List Clm} {lt : Int} (hl : lost.length ≤ 1000) (h : (renM n now p lost lt).2.2 = 0) : validN (renM n now p lost lt).1 = true := by
  unfold renM at h ⊢
  split
  · rename_i hv
    rw [if_pos hv] at h
    split
    · rename_i hr
      rw [if_pos hr] at h
      split
      · rename_i h64
        rw [if_pos h64] at h
        cases h
      · have vN := validN_iff.1 hv.1
        have hvr := vN.2.2.2
        have hcl := cur_len n.cl now
        have hT := renT_ok (a := p.ip) (lt := lt) hr.1 hr.2.2 (cur_pw hvr now) (fun x hx => validR_ok hvr x (List.mem_filter.1 hx).1) (L := lost) (fun x hx => List.all_eq_true.1 hv.2.2 x hx) (by omega) lost.length (Nat.le_refl _)
        rw [List.take_length] at hT
        have h1 := hT.l1
        exact validN_iff.2 ⟨vN.1, vN.2.1, vN.2.2.1, validR_mk (by dsimp only; omega) hT.ok hT.pw⟩
    · rename_i hr
      rw [if_neg hr] at h
      cases h
  · rename_i hv
    rw [if_neg hv] at h
    cases h
theorem renM_R {n : Net} {now : Int} {p : Pfx} {lost : List Clm} {lt : Int} (hn : NetR n) (hl : lost.length ≤ 1000) : NetR (renM n now p lost lt).1 := by
  obtain ⟨l1, l2, _⟩ := renM_len n now p lost lt hl
  refine ⟨?_, by have := hn.lm; omega, by omega⟩
  unfold renM
  split
  · split
    · split
      · simp [net0]
      · exact hn.p
    · simp [net0]
  · simp [net0]
theorem k_renumbers (n : Net) (now : Int) (p : Pfx) (lost : List Clm) (lt : Int) (hn : NetR n) (lm : n.mem.length ≤ 1000) (hl : lost.length ≤ 1000) (hU : ∀ c ∈ lost, isU c.eui) :
    Con Tryz.prog 13 [netF n, int now, pfxV p, .fs .no 20 (lst clmV lost), int lt] [] (bool true) [] := by
  have cx := k_xRenumber n now p lost lt hn (by omega) hU
  have cy := k_yRenumber n now p lost lt hn (by omega) hU
  have hv := @renM_valid n now p lost lt hl
  obtain ⟨l1, l2, l3⟩ := renM_len n now p lost lt hl
  have hR : NetR (renM n now p lost lt).1 := renM_R hn hl
  generalize renM n now p lost lt = q at *
  obtain ⟨x, L, e⟩ := q
  dsimp only at cx cy hv l1 l2 l3 hR
  refine spec_of_run ttok mixed (T0 := 130239) (ts := [.tmp 10]) 58 rfl rfl rfl rfl (by simp) rfl ?_
  conv => whnf
  repeat' (first | with_reducible apply True.intro | ((apply Same.bool (hv (by omega))); (conv => whnf)) | ((first | ((with_reducible apply Nm.mk); focus ((try simp only [lns]); exact rfl)) | ((with_reducible apply Need.mk); focus first | (simp only [lns]; omega) | exact CleanP.nil rfl) | (apply CallN.mk (cx)) | (apply CallN.mk (cy)) | (apply CallN.mk (k_SameN x _ _ _ _ (by omega) (by omega))) | (apply CallN.mk (k_Equal_Clm L L _ _ (by omega))) | (apply CallN.mk (k_nValidT x _ _ hR)) | (with_reducible first | apply Bif.T | apply Bif.F) | ((with_reducible first | apply Bif.dec | apply Bif.beq | apply Bif.bne) <;> intro h <;> (try simp only [lns] at h) <;> (try first | (exfalso; omega) | (exact absurd True.intro h))) | (apply Same.bool; focus (with_reducible rfl)) | (with_reducible apply GiveN.lend) | (with_reducible apply Frz.l)) <;> conv => whnf) | fail)
end Go.Fw

/- PartitionRenumbers: the walk. -/
namespace Go.Fw
open Go.Proofs
set_option maxHeartbeats 8000000
set_option maxRecDepth 4000
theorem k_PartitionRenumbers (raw : Net) (t : List Int) (now : Int) (p : Pfx) (rl : List Clm) (lt : Int) (hp : ∀ x ∈ raw.mem, 0 ≤ x) (lp : raw.mem.length ≤ 9223372036854775807 ∧ raw.cl.length ≤ 9223372036854775807) (lr : rl.length ≤ 9223372036854775807) (hU : ∀ c ∈ rl, isU c.eui) :
    Con Tryz.prog 3 [netF raw, .fs .no 1 (ints t), int now, pfxV p, .fs .no 20 (lst clmV rl), int lt] [] (bool true) [] := by
  have sp := k_small37 raw lp.1 lp.2
  by_cases hs : (raw.mem.length ≤ 20 ∧ raw.cl.length ≤ 70) ∧ rl.length ≤ 70
  case neg =>
    refine spec_of_run ttok mixed (T0 := 33813119) (ts := [.tmp 12]) 90 rfl rfl rfl rfl (by simp) rfl ?_
    conv => whnf
    repeat' (first | with_reducible apply True.intro | ((first | ((with_reducible apply Nm.mk); focus ((try simp only [lns]); exact rfl)) | (apply CallN.mk (sp)) | (apply CallN.mk (k_known37)) | (with_reducible first | apply Bif.T | apply Bif.F) | ((with_reducible apply Bif.dec) <;> intro h <;> (try simp only [lns] at h) <;> (try (exfalso; omega))) | (with_reducible apply Bif.not) | (with_reducible apply Same.rfl) | (with_reducible apply Frz.l)) <;> conv => whnf) | fail)
  obtain ⟨⟨p1, p2⟩, q1⟩ := hs
  rw [decide_eq_true ⟨p1, p2⟩] at sp
  have rp : NetR raw := ⟨hp, lp.1, by omega⟩
  have n1 := k_renumbers raw now p rl lt rp (by omega) (by omega) hU
  have ht : (t.take 400).length ≤ 400 := by simp; omega
  generalize hT : t.take 400 = l at ht
  have hN := k_made_New t
  rw [hT] at hN
  refine spec_of_run ttok mixed (T0 := 33813119) (ts := [.tmp 12]) 90 rfl rfl rfl rfl (by simp) rfl ?_
  conv => whnf
  repeat' (first | ((first | ((with_reducible apply Nm.mk); focus ((try simp only [lns]); exact rfl)) | ((with_reducible apply Need.mk); focus omega) | (apply CallN.mk (sp)) | (apply CallN.mk (hN)) | (refine CallN.ex (k_world_Base l _ (by omega) ht) ?_; rintro _ _ ⟨b, k1, rfl, rfl, b1, b2, b3⟩) | (refine CallN.ex (k_world_Net l _ b (by omega) ht (by omega)) ?_; rintro _ _ ⟨N, k2, rfl, rfl, c1, c2⟩) | (refine CallN.ex (k_world_ClaimsU l _ 6 b (by omega) ht (by omega) (by omega)) ?_; rintro _ _ ⟨L, k3, rfl, rfl, d1, d2, d3, d4⟩) | (refine CallN.ex (k_world_IP l _ (by omega) ht) ?_; rintro _ _ ⟨ip, k4, rfl, rfl, e1⟩) | (refine CallN.ex (k_tape_Next l _ 5 (by omega) ht (by omega)) ?_; rintro _ _ ⟨s5, k5, rfl, rfl, f1, f2, f3⟩) | (with_reducible first | apply Bif.T | apply Bif.F) | ((with_reducible apply Bif.dec) <;> intro h <;> (try simp only [lns] at h) <;> (try (exfalso; omega))) | (with_reducible apply Bif.not) | (with_reducible apply Frz.l)) <;> conv => whnf) | fail)
  obtain ⟨bt, hbt⟩ : ∃ bt : Int, (SV.v (.int .i64 64) :: SV.v (.int .i64 64) :: SV.v (.int .i64 48) :: SV.v (.int .i64 65) :: SV.v (.int .i64 0) :: reps 0 (SV.v (.int .i64 0)))[s5.toNat]? = some (int bt) := by
    have : s5 = 0 ∨ s5 = 1 ∨ s5 = 2 ∨ s5 = 3 ∨ s5 = 4 := by omega
    rcases this with rfl | rfl | rfl | rfl | rfl <;> exact ⟨_, rfl⟩
  apply Elem.mk (int bt) hbt
  conv => whnf
  have cm := k_ref04_Mask ip bt
  have hLU : ∀ c ∈ L, isU c.eui := fun c hc => by have := d4 c hc; exact ⟨by omega, by omega⟩
  have x1 := c1.X
  have y1 := x1.lm
  generalize hq : maskP ip bt = q at cm
  have n2 := fun a b => k_renumbers N a q L b x1.R (by omega) (by omega) hLU
  have n3 := fun a => k_renumbers N b q rl a x1.R (by omega) (by omega) hU
  repeat' (first | ((first | ((with_reducible apply Nm.mk); focus ((try simp only [lns]); exact rfl)) | ((with_reducible apply Wr.i64); focus omega) | ((with_reducible apply Need.mk); focus first | (simp only [lns]; omega) | exact CleanP.nil rfl) | (apply CallN.mk (cm)) | (apply CallN.mk (n1)) | (refine CallN.ex (k_world_Time l _ b (by omega) ht (by omega)) ?_; rintro _ _ ⟨tm, k6, rfl, rfl, g1, g2, g3⟩) | (refine CallN.ex (k_tape_Next l _ 30 (by omega) ht (by omega)) ?_; rintro _ _ ⟨s6, k7, rfl, rfl, h1, h2, h3⟩) | (apply CallN.mk (n2 _ _)) | (apply CallN.mk (n3 _)) | (refine CallN.ex (k_spoiled l _ N (by omega) ht c1) ?_; rintro _ _ ⟨S, k8, rfl, rfl, i1, i2⟩) | (with_reducible apply Bif.T) | (with_reducible apply GiveN.lend) | (with_reducible apply Frz.l)) <;> conv => whnf) | fail)
  have n4 := k_renumbers S b q L 5 i1.R (by have := i1.lm; omega) (by omega) hLU
  repeat' (first | with_reducible apply True.intro | ((first | ((with_reducible apply Need.mk); focus first | exact CleanP.nil rfl | kernel_rfl) | (apply CallN.mk (n4)) | (apply CallN.mk (k_known37)) | (with_reducible apply Bif.T) | (with_reducible apply Same.rfl) | (with_reducible apply Frz.l)) <;> conv => whnf) | fail)
end Go.Fw

/- What comes in for Renumber: claims, prefixes. -/
namespace Go.Fw
set_option maxRecDepth 4000
open Go.Proofs
theorem shp_u64U {t d : Nat} {s : SV} (ht : tt t = .int .u64) (h : Shp Tryz.prog tt (d + 1) t s) : ∃ n, s = .v (.int .u64 n) ∧ isU n := by
  simp only [Shp, ht] at h
  obtain ⟨n, rfl, hn⟩ := h
  refine ⟨n, rfl, ?_⟩
  simp [Lit.wf, IntKind.min, IntKind.max, IntKind.signed, IntKind.bits] at hn
  unfold isU
  omega
theorem shp_clmU {d : Nat} {s : SV} (h : Shp Tryz.prog tt (d + 2) 61 s) : ∃ c, s = clmV c ∧ isU c.eui := by
  obtain ⟨cs, rfl, hl, h⟩ := h
  match cs, hl with
  | [a, b, c, e, f], _ =>
    obtain ⟨ip, rfl⟩ := shp_ip (d := d) (h 0 _ _ rfl rfl)
    obtain ⟨eu, rfl, hu⟩ := shp_u64U (d := d) rfl (h 1 _ _ rfl rfl)
    obtain ⟨sq, rfl, _⟩ := shp_int (d := d) rfl (h 2 _ _ rfl rfl)
    obtain ⟨si, rfl, _⟩ := shp_int (d := d) rfl (h 3 _ _ rfl rfl)
    obtain ⟨up, rfl, _⟩ := shp_int (d := d) rfl (h 4 _ _ rfl rfl)
    exact ⟨⟨ip, eu, sq, si, up⟩, rfl, hu⟩
theorem shp_clmsU {d : Nat} {s : SV} (h : Shp Tryz.prog tt (d + 3) 27 s) : ∃ l, s = .fs .no 20 (lst clmV l) ∧ l.length ≤ 9223372036854775807 ∧ ∀ c ∈ l, isU c.eui := by
  obtain ⟨rows, rfl, hl, h⟩ := h
  obtain ⟨l, rfl, hs⟩ := rows_of clmV (fun c => isU c.eui) fun r hr => let ⟨n, h1, h2⟩ := shp_clmU (d := d) (h 61 Tryz.underlying27 r hr); ⟨n, h1, h2⟩
  exact ⟨l, rfl, Nat.le_trans (by simpa using hl) (by decide), hs⟩
theorem shp_pfx {d : Nat} {s : SV} (h : Shp Tryz.prog tt (d + 2) 34 s) : ∃ p, s = pfxV p := by
  obtain ⟨cs, rfl, hl, h⟩ := h
  match cs, hl with
  | [a, b], _ =>
    obtain ⟨ip, rfl⟩ := shp_ip (d := d) (h 0 _ _ rfl rfl)
    obtain ⟨n, rfl, _⟩ := shp_int (d := d) rfl (h 1 _ _ rfl rfl)
    exact ⟨⟨ip, n⟩, rfl⟩
end Go.Fw
