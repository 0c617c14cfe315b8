/- IPHC: the form of any address that is not a multicast address, in one. -/
import Derived.Test.YtlkhjalnnciocaaGreatHipA

namespace Go.Fw
open Go.Proofs
set_option maxHeartbeats 8000000
set_option maxRecDepth 8000
theorem k_uniO (a : IP) (e : Nat) (s : Bool) (l : List Cxt) (now : Int) (c : Cxt) (h : VCx l) (hn : isTm now) (hl : l.length ≤ 1000) (h0 : ¬ (s = true ∧ a = ip0)) (h1 : localI a = false) (h2 : forC l a now = some c) (h3 : ¬ (c.pfx.bits ≤ 64 ∧ ipN c.pfx.ip (loN a) = a)) :
    Con Tryz.prog 149 [ipV a, lnkV e, bool s, cxts l, int now] [] (cpaV ⟨false, 0, 0, beN 8 (hiN a) ++ beN 8 (loN a)⟩) [] := by
  have cs := k_aSplit a
  have cw := k_within llP a (loN a) llP_v
  rw [show decide (llP.bits ≤ 64 ∧ ipN llP.ip (loN a) = a) = false from h1] at cw
  have cf := k_ForC l a now h hn hl
  rw [h2] at cf
  change Con _ _ _ _ (.tup [cxtV c, bool true]) _ at cf
  have cw2 := k_within c.pfx a (loN a) (h.mem (forC_some h2).1).1
  rw [decide_eq_false h3] at cw2
  have ch := k_high a
  have a1 := k_AppS (hiN a) 8 (by decide)
  have a2 := k_AppT (beN 8 (hiN a)) (loN a) 8 (by decide) (by rw [beN_len]; decide)
  have hne : s = true → a.1 ≠ List.replicate 16 0 := fun hs h => h0 ⟨hs, ip_ext h⟩
  cases s
  all_goals
    refine spec_of_run ttok mixed (T0 := 9709185632895178773623935) (ts := [.cell 10 249]) 91 rfl rfl rfl rfl (by simp) rfl ?_
    conv => whnf
    repeat' (first | with_reducible apply True.intro | ((apply Same.mk rfl); (conv => whnf)) | ((first | ((with_reducible apply Need.mk); focus kernel_rfl) | (apply CallN.mk (cs)) | (apply CallN.mk (cf)) | (apply CallN.mk (k_linkLocal)) | (apply CallN.mk (cw)) | (apply CallN.mk (cw2)) | (apply CallN.mk (ch)) | (apply CallN.mk (a1)) | (apply CallN.mk (a2)) | (with_reducible first | apply Bif.T | apply Bif.F) | ((with_reducible apply Bif.beq) <;> intro h <;> (try simp only [lns, beN_len, ipB_len] at h) <;> (try (exact absurd h (hne rfl)))) | (with_reducible apply Bif.not) | (with_reducible apply Frz.l)) <;> conv => whnf) | fail)
theorem uniF_iid {a : IP} {e : Nat} {s : Bool} {l : List Cxt} {now : Int} (h0 : ¬ (s = true ∧ a = ip0)) (h : localI a = true ∨ (knownC l a now).isSome = true) : uniF a e s l now = iidF (localI a) (bestV (forC l a now)) e (loN a) := by
  rw [uniF, if_neg h0, if_neg (fun g => by rcases h with h | h <;> simp_all)]; rfl
theorem uniF_no {a : IP} {e : Nat} {s : Bool} {l : List Cxt} {now : Int} (h0 : ¬ (s = true ∧ a = ip0)) (h1 : localI a = false) (h2 : (knownC l a now).isSome = false) : uniF a e s l now = ⟨false, 0, 0, beN 8 (hiN a) ++ beN 8 (loN a)⟩ := by
  rw [uniF, if_neg h0, if_pos ⟨h1, h2⟩]
theorem knownC_some {l : List Cxt} {a : IP} {now : Int} {c : Cxt} (h : forC l a now = some c) : (knownC l a now).isSome = decide (c.pfx.bits ≤ 64 ∧ ipN c.pfx.ip (loN a) = a) := by
  rw [knownC, h]
  show (if c.pfx.bits ≤ 64 ∧ ipN c.pfx.ip (loN a) = a then some c else none).isSome = _
  split
  · rename_i g; rw [decide_eq_true g]; rfl
  · rename_i g; rw [decide_eq_false g]; rfl
theorem k_uni (a : IP) (e : Nat) (s : Bool) (l : List Cxt) (now : Int) (h : VCx l) (hn : isTm now) (hl : l.length ≤ 1000) (he : e ≤ 18446744073709551615) :
    Con Tryz.prog 149 [ipV a, lnkV e, bool s, cxts l, int now] [] (cpaV (uniF a e s l now)) [] := by
  by_cases h0 : s = true ∧ a = ip0
  · obtain ⟨rfl, rfl⟩ := h0
    rw [uniF, if_pos ⟨rfl, rfl⟩]
    exact k_uni0 e l now
  · have cw := k_within llP a (loN a) llP_v
    change Con _ _ _ _ (bool (localI a)) _ at cw
    have cf := k_ForC l a now h hn hl
    cases hf : forC l a now with
    | none =>
      have hk : (knownC l a now).isSome = false := by rw [knownC, hf]; rfl
      cases hloc : localI a
      · rw [uniF_no h0 hloc hk]
        exact k_uniN a e s l now h hn hl he h0 hloc hf
      · rw [uniF_iid h0 (.inl hloc)]
        rw [hf] at cf ⊢
        rw [hloc] at cw ⊢
        exact k_uniP a e s l now he h0 true false true cxt0 (.inl rfl) cf cw (fun g => by cases g)
    | some c =>
      have hv := (h.mem (forC_some hf).1).1
      have cw2 := k_within c.pfx a (loN a) hv
      have hk := knownC_some hf
      by_cases hy : localI a = true ∨ (knownC l a now).isSome = true
      · rw [uniF_iid h0 hy]
        rw [hf] at cf ⊢
        exact k_uniP a e s l now he h0 (localI a) true _ c (hy.imp id fun g => ⟨rfl, by rw [← hk]; exact g⟩) cf cw fun _ => cw2
      · have hloc : localI a = false := Bool.eq_false_iff.2 fun g => hy (.inl g)
        have hkn : (knownC l a now).isSome = false := Bool.eq_false_iff.2 fun g => hy (.inr g)
        rw [uniF_no h0 hloc hkn]
        rw [hkn] at hk
        exact k_uniO a e s l now c h hn hl h0 hloc hf (of_decide_eq_false hk.symm)
/-- The ranges of a form. -/
structure OkC (f : Cpa) : Prop where
  id : 0 ≤ f.id ∧ f.id ≤ 15
  mode : 0 ≤ f.mode ∧ f.mode ≤ 3
  len : f.bytes.length ≤ 16
theorem chF_ok {loc : Bool} {c : Cxt} {m : Int} {b : List UInt8} (h : loc = true ∨ (0 ≤ c.id ∧ c.id < 16)) (hm : 0 ≤ m ∧ m ≤ 3) (hb : b.length ≤ 16) : OkC (chF loc c m b) :=
  ⟨by unfold chF; dsimp only; split <;> rcases h with h | h <;> simp_all <;> omega, hm, hb⟩
theorem uniF_ok {a : IP} {e : Nat} {s : Bool} {l : List Cxt} {now : Int} (h : VCx l) : OkC (uniF a e s l now) := by
  by_cases h0 : s = true ∧ a = ip0
  · rw [uniF, if_pos h0]; exact ⟨by decide, by decide, by decide⟩
  · by_cases hy : localI a = true ∨ (knownC l a now).isSome = true
    · rw [uniF_iid h0 hy]
      have hid : localI a = true ∨ (0 ≤ (bestV (forC l a now)).id ∧ (bestV (forC l a now)).id < 16) := by
        cases hf : forC l a now with
        | none => exact .inr (by decide)
        | some c => exact .inr (h.mem (forC_some hf).1).2.2
      unfold iidF
      split
      · exact chF_ok hid (by decide) (by decide)
      · split
        · exact chF_ok hid (by decide) (by rw [beN_len]; decide)
        · exact chF_ok hid (by decide) (by rw [beN_len]; decide)
    · rw [uniF_no h0 (Bool.eq_false_iff.2 fun g => hy (.inl g)) (Bool.eq_false_iff.2 fun g => hy (.inr g))]
      exact ⟨by show (0 : Int) ≤ 0 ∧ (0 : Int) ≤ 15; decide, by show (0 : Int) ≤ 0 ∧ (0 : Int) ≤ 3; decide, by simp [beN_len]⟩
end Go.Fw

/- IPHC: an address that is not a multicast address, read. -/
namespace Go.Fw
open Go.Proofs
set_option maxHeartbeats 8000000
set_option maxRecDepth 8000
theorem k_rip (b : List UInt8) (at_ : Nat) (a : IP) (hb : b.length ≤ 10000) (ha : at_ + 16 ≤ b.length) (he : (b.drop at_).take 16 = ipB a) :
    Con Tryz.prog 202 [.pb 0 []] [.cells (rdV b at_)] (.tup [ipV a, int 0]) [.cells (rdV b (at_ + 16))] := by
  have hl2 : 16 ≤ (b.drop at_).length := by rw [List.length_drop]; omega
  have e0 : List.take 0 [0, 0, 0, 0, 0, 0, 0, 0, 0, 0, 0, 0, 0, 0, 0, (0 : Int)] ++ List.take 16 (toI (b.drop at_)) ++ List.drop (0 + (List.take 16 (toI (b.drop at_))).length) [0, 0, 0, 0, 0, 0, 0, 0, 0, 0, 0, 0, 0, 0, 0, 0] = a.1 := by
    have e5 : List.take 16 (toI (b.drop at_)) = a.1 := by
      rw [← toI_ipB a, ← he]; simp [toI, List.map_take]
    have e6 : a.1.length = 16 := a.2.1
    rw [e5, e6]; exact List.append_nil _
  have e1 : List.take ((lst b8 b).length - at_) (List.drop at_ (lst b8 b)) = lst b8 (b.drop at_) := nm_tailN
  refine spec_of_run ttok mixed (T0 := 32797) (ts := [.cell 2 67, .tmp 3]) 36 rfl rfl rfl rfl (by simp) rfl ?_
  conv => whnf
  repeat' (first | with_reducible apply True.intro | ((apply Nm.mk e1); (conv => whnf)) | ((apply Byt.mk (toI (b.drop at_)) (toI_rows _).symm); (conv => whnf)) | ((apply Nm.mk e0); (conv => whnf)) | ((apply Same.mk rfl); (conv => whnf)) | ((first | ((with_reducible apply Nm.mk); focus ((try simp only [lns, beN_len, ipB_len]); exact rfl)) | ((with_reducible apply Wr.i64); focus omega) | ((with_reducible apply Need.mk); focus first | omega | (simp only [lns, beN_len, ipB_len]; omega) | kernel_rfl) | ((with_reducible apply Bif.dec) <;> intro h <;> (try simp only [lns, beN_len, ipB_len] at h) <;> (try (exfalso; omega))) | (with_reducible apply Frz.l)) <;> conv => whnf) | fail)
/-- Where the prefix comes from: the link-local one, or a context. -/
structure PfxOf (l : List Cxt) (id now : Int) (ctx : Bool) (P : Pfx) : Prop where
  v : vPfx P = true
  b : P.bits ≤ 64
  m : gt P.ip.1 0 ≠ 255
  ll : ctx = false → P = llP
  fd : ctx = true → ∃ k, k < l.length ∧ (∀ j, j < k → okD id now (gt l j) = false) ∧ okD id now (gt l k) = true ∧ (gt l k).pfx = P
theorem k_rUni (e : Nat) (he : e ≤ 18446744073709551615) (b : List UInt8) (at_ at2 v : Nat) (l : List Cxt) (id now m : Int) (ctx : Bool) (P : Pfx) (h : VCx l) (hn : isTm now) (hl : l.length ≤ 1000) (hp : PfxOf l id now ctx P) (hb : b.length ≤ 10000)
    (hm : (m = 3 ∧ at2 = at_ ∧ v = iidL e) ∨ (m = 2 ∧ at2 = at_ + 2 ∧ at_ + 2 ≤ b.length ∧ v = beV ((b.drop at_).take 2) + 1099478073344) ∨ (m = 1 ∧ at2 = at_ + 8 ∧ at_ + 8 ≤ b.length ∧ v = beV ((b.drop at_).take 8))) :
    Con Tryz.prog 162 [.pb 0 [], bool ctx, int m, lnkV e, .clo 160 [.pb 1 [], .pb 2 [], .pb 3 []]]
      [.cells (rdV b at_), .cells (cxts l), .cells (int id), .cells (int now)] (.tup [ipV (ipN P.ip v), int 0]) [.cells (rdV b at2), .cells (cxts l), .cells (int id), .cells (int now)] := by
  have ci := k_aIID e he
  have cj := k_aJoin P v hp.v
  rw [if_pos hp.b] at cj
  have cm := k_aMulti (ipN P.ip v)
  rw [decide_eq_false (by rw [gt_ipN (by decide)]; exact hp.m)] at cm
  cases ctx
  · have hP := hp.ll rfl
    subst hP
    rcases hm with ⟨rfl, rfl, rfl⟩ | ⟨rfl, rfl, h2, rfl⟩ | ⟨rfl, rfl, h2, rfl⟩
    · refine spec_of_run ttok mixed (T0 := 38846195984377904124919071) (ts := [.cell 10 67, .tmp 11]) 88 rfl rfl rfl rfl (by simp) rfl ?_
      conv => whnf
      repeat' (first | with_reducible apply True.intro | ((apply Same.mk rfl); (conv => whnf)) | ((first | (apply CallN.mk (ci)) | (apply CallN.mk (cj)) | (apply CallN.mk (cm)) | (apply CallN.mk (k_linkLocal)) | (with_reducible first | apply Bif.T | apply Bif.F) | ((with_reducible first | apply Bif.beq | apply Bif.bne) <;> intro h <;> (try simp only [lns, beN_len, ipB_len] at h) <;> (try (exfalso; omega))) | (with_reducible apply Bif.not) | (with_reducible apply Frz.l)) <;> conv => whnf) | fail)
    · have cr := k_rnum b at_ 2 (by decide) hb h2
      have hv := beV_lt 2 ((b.drop at_).take 2) (by simp; omega)
      have hw : IntKind.wrap .u64 ((beV ((b.drop at_).take 2) : Int) + 1099478073344) = ((beV ((b.drop at_).take 2) + 1099478073344 : Nat) : Int) := by simp [IntKind.wrap, IntKind.bits, IntKind.signed]; omega
      refine spec_of_run ttok mixed (T0 := 38846195984377904124919071) (ts := [.cell 10 67, .tmp 11]) 88 rfl rfl rfl rfl (by simp) rfl ?_
      conv => whnf
      repeat' (first | with_reducible apply True.intro | ((apply Wr.eq hw); (conv => whnf)) | ((apply Same.mk rfl); (conv => whnf)) | ((first | (apply CallN.mk (ci)) | (apply CallN.mk (cr)) | (apply CallN.mk (cj)) | (apply CallN.mk (cm)) | (apply CallN.mk (k_linkLocal)) | (with_reducible apply Bif.F) | ((with_reducible first | apply Bif.beq | apply Bif.bne) <;> intro h <;> (try simp only [lns, beN_len, ipB_len] at h) <;> (try (exfalso; omega))) | (with_reducible apply Frz.l)) <;> conv => whnf) | fail)
    · have cr := k_rnum b at_ 8 (by decide) hb h2
      refine spec_of_run ttok mixed (T0 := 38846195984377904124919071) (ts := [.cell 10 67, .tmp 11]) 88 rfl rfl rfl rfl (by simp) rfl ?_
      conv => whnf
      repeat' (first | with_reducible apply True.intro | ((apply Same.mk rfl); (conv => whnf)) | ((first | (apply CallN.mk (ci)) | (apply CallN.mk (cr)) | (apply CallN.mk (cj)) | (apply CallN.mk (cm)) | (apply CallN.mk (k_linkLocal)) | (with_reducible apply Bif.F) | ((with_reducible first | apply Bif.beq | apply Bif.bne) <;> intro h <;> (try simp only [lns, beN_len, ipB_len] at h) <;> (try (exfalso; omega))) | (with_reducible apply Frz.l)) <;> conv => whnf) | fail)
  · obtain ⟨k, hk, h1, h2k, rfl⟩ := hp.fd rfl
    have cf := k_findC l id now k h hn hl hk h1 h2k
    have hbb := hp.b
    rcases hm with ⟨rfl, rfl, rfl⟩ | ⟨rfl, rfl, h2, rfl⟩ | ⟨rfl, rfl, h2, rfl⟩
    · refine spec_of_run ttok mixed (T0 := 38846195984377904124919071) (ts := [.cell 10 67, .tmp 11]) 88 rfl rfl rfl rfl (by simp) rfl ?_
      conv => whnf
      repeat' (first | with_reducible apply True.intro | ((apply Same.mk rfl); (conv => whnf)) | ((first | (apply CallN.mk (ci)) | (apply CallN.mk (cf)) | (apply CallN.mk (cj)) | (apply CallN.mk (cm)) | (apply CallN.mk (k_linkLocal)) | (with_reducible first | apply Bif.T | apply Bif.F) | ((with_reducible first | apply Bif.dec | apply Bif.beq | apply Bif.bne) <;> intro h <;> (try simp only [lns, beN_len, ipB_len] at h) <;> (try (exfalso; omega))) | (with_reducible apply Bif.not) | (with_reducible apply Frz.l)) <;> conv => whnf) | fail)
    · have cr := k_rnum b at_ 2 (by decide) hb h2
      have hv := beV_lt 2 ((b.drop at_).take 2) (by simp; omega)
      have hw : IntKind.wrap .u64 ((beV ((b.drop at_).take 2) : Int) + 1099478073344) = ((beV ((b.drop at_).take 2) + 1099478073344 : Nat) : Int) := by simp [IntKind.wrap, IntKind.bits, IntKind.signed]; omega
      refine spec_of_run ttok mixed (T0 := 38846195984377904124919071) (ts := [.cell 10 67, .tmp 11]) 88 rfl rfl rfl rfl (by simp) rfl ?_
      conv => whnf
      repeat' (first | with_reducible apply True.intro | ((apply Wr.eq hw); (conv => whnf)) | ((apply Same.mk rfl); (conv => whnf)) | ((first | (apply CallN.mk (ci)) | (apply CallN.mk (cf)) | (apply CallN.mk (cr)) | (apply CallN.mk (cj)) | (apply CallN.mk (cm)) | (apply CallN.mk (k_linkLocal)) | (with_reducible first | apply Bif.T | apply Bif.F) | ((with_reducible first | apply Bif.dec | apply Bif.beq | apply Bif.bne) <;> intro h <;> (try simp only [lns, beN_len, ipB_len] at h) <;> (try (exfalso; omega))) | (with_reducible apply Bif.not) | (with_reducible apply Frz.l)) <;> conv => whnf) | fail)
    · have cr := k_rnum b at_ 8 (by decide) hb h2
      refine spec_of_run ttok mixed (T0 := 38846195984377904124919071) (ts := [.cell 10 67, .tmp 11]) 88 rfl rfl rfl rfl (by simp) rfl ?_
      conv => whnf
      repeat' (first | with_reducible apply True.intro | ((apply Same.mk rfl); (conv => whnf)) | ((first | (apply CallN.mk (ci)) | (apply CallN.mk (cf)) | (apply CallN.mk (cr)) | (apply CallN.mk (cj)) | (apply CallN.mk (cm)) | (apply CallN.mk (k_linkLocal)) | (with_reducible first | apply Bif.T | apply Bif.F) | ((with_reducible first | apply Bif.dec | apply Bif.beq | apply Bif.bne) <;> intro h <;> (try simp only [lns, beN_len, ipB_len] at h) <;> (try (exfalso; omega))) | (with_reducible apply Bif.not) | (with_reducible apply Frz.l)) <;> conv => whnf) | fail)
theorem k_rUniA (e : Nat) (he : e ≤ 18446744073709551615) (b : List UInt8) (at_ : Nat) (a : IP) (l : List Cxt) (id now : Int) (hb : b.length ≤ 10000) (ha : at_ + 16 ≤ b.length) (hd : (b.drop at_).take 16 = ipB a) (hm : gt a.1 0 ≠ 255) :
    Con Tryz.prog 162 [.pb 0 [], bool false, int 0, lnkV e, .clo 160 [.pb 1 [], .pb 2 [], .pb 3 []]]
      [.cells (rdV b at_), .cells (cxts l), .cells (int id), .cells (int now)] (.tup [ipV a, int 0]) [.cells (rdV b (at_ + 16)), .cells (cxts l), .cells (int id), .cells (int now)] := by
  have ci := k_aIID e he
  have cr := k_rip b at_ a hb ha hd
  have cm := k_aMulti a
  rw [decide_eq_false hm] at cm
  refine spec_of_run ttok mixed (T0 := 38846195984377904124919071) (ts := [.cell 10 67, .tmp 11]) 88 rfl rfl rfl rfl (by simp) rfl ?_
  conv => whnf
  repeat' (first | with_reducible apply True.intro | ((apply Same.mk rfl); (conv => whnf)) | ((first | (apply CallN.mk (ci)) | (apply CallN.mk (cr)) | (apply CallN.mk (cm)) | (apply CallN.mk (k_linkLocal)) | (with_reducible apply Bif.F) | ((with_reducible first | apply Bif.beq | apply Bif.bne) <;> intro h <;> (try simp only [lns, beN_len, ipB_len] at h) <;> (try (exfalso; omega))) | (with_reducible apply Frz.l)) <;> conv => whnf) | fail)
end Go.Fw

/- IPHC: the form of a multicast address. -/
namespace Go.Fw
open Go.Proofs
set_option maxHeartbeats 8000000
set_option maxRecDepth 8000
def zeroR (a : IP) (i j : Nat) : Bool := decide (∀ m, m < j - i → gt a.1 (i + m) = 0)
theorem k_zero (a : IP) (i j : Nat) (h : i < j ∧ j ≤ 16) : Con Tryz.prog 198 [int (i : Int), int (j : Int), .pb 0 []] [.cells (ipV a)] (bool (zeroR a i j)) [.cells (ipV a)] := by
  have la := a.2.1
  refine spec_of_run ttok mixed (T0 := 146599) (ts := [.tmp 5]) 19 rfl rfl rfl rfl (by simp) rfl ?_
  conv => whnf
  repeat' (first | ((apply Nm.mk (show ((j : Int).toNat - i) = j - i by omega)); (conv => whnf)) | ((first | ((with_reducible apply Nm.mk); focus ((try simp only [lns, beN_len, ipB_len]); exact rfl)) | ((with_reducible apply Need.mk); focus omega) | (with_reducible apply Frz.l)) <;> conv => whnf) | fail)
  refine loop_keep ttok mixed (T0 := 146599) [10, 11] (ι := {k : Nat // k ≤ j - i ∧ ∀ m, m < k → gt a.1 (i + m) = 0})
    (fun k => [(12, int (k.1 : Int))]) (fun _ => [.cells (ipV a)]) (fun k => j - i - k.1) ⟨0, by omega, fun m hm => absurd hm (Nat.not_lt_zero m)⟩ ?_
  conv => whnf
  repeat' (first | ((apply Same.mk rfl); (conv => whnf)) | ((with_reducible apply Frz.l) <;> conv => whnf) | fail)
  rintro ⟨k, hk, hz⟩
  dsimp only
  conv => whnf
  by_cases hkj : k < j - i
  · repeat' (first | with_reducible apply True.intro | ((apply Same.mk (congrArg bool (decide_eq_false (fun g => h (g k hkj))).symm)); (conv => whnf)) | ((first | ((with_reducible apply Nm.mk); focus ((try simp only [lns, beN_len, ipB_len]); exact rfl)) | ((with_reducible apply Wr.i64); focus omega) | ((with_reducible apply Need.mk); focus omega) | ((with_reducible first | apply Bif.dec | apply Bif.bne) <;> intro h <;> (try simp only [lns, beN_len, ipB_len] at h) <;> (try (exfalso; omega))) | (with_reducible apply Same.rfl) | (with_reducible apply Frz.l)) <;> conv => whnf) | fail)
    (refine ⟨⟨k + 1, by omega, fun m hm => if e : m = k then (by subst e; exact h) else hz m (by omega)⟩, ?_⟩; (try dsimp only); conv => whnf); repeat' (first | with_reducible apply True.intro | ((apply Same.mk rfl); (conv => whnf)) | ((first | ((with_reducible apply Need.mk); focus omega) | (with_reducible apply Turn.l) | (with_reducible apply Frz.l)) <;> conv => whnf) | fail)
  · repeat' (first | with_reducible apply True.intro | ((apply Same.mk (congrArg bool (decide_eq_true (fun m hm => hz m (by omega))).symm)); (conv => whnf)) | ((first | ((with_reducible apply Bif.dec) <;> intro h <;> (try simp only [lns, beN_len, ipB_len] at h) <;> (try (exfalso; omega))) | (with_reducible apply Same.rfl) | (with_reducible apply Frz.l)) <;> conv => whnf) | fail)
def bA (a : IP) (i : Nat) : UInt8 := gt (ipB a) i
theorem bA_eq {a : IP} {i : Nat} (h : i < 16) : SV.v (.int .u8 (gt a.1 i)) = b8 (bA a i) := by
  have hl := a.2.1
  have h1 := byte_gt (a := a) h
  rw [bA, ipB, gt_map (by omega)]
  exact u8_nat h1
def groupF (a : IP) : Cpa :=
  if gt a.1 1 = 2 ∧ zeroR a 2 15 = true then ⟨false, 0, 3, [bA a 15]⟩
  else if zeroR a 2 13 = true then ⟨false, 0, 2, [bA a 1, bA a 13, bA a 14, bA a 15]⟩
  else if zeroR a 2 11 = true then ⟨false, 0, 1, [bA a 1, bA a 11, bA a 12, bA a 13, bA a 14, bA a 15]⟩
  else ⟨false, 0, 0, ipB a⟩
theorem groupF_ok (a : IP) : OkC (groupF a) := by
  unfold groupF
  split
  · exact ⟨by show (0 : Int) ≤ 0 ∧ (0 : Int) ≤ 15; decide, by show (0 : Int) ≤ 3 ∧ (3 : Int) ≤ 3; decide, by show 1 ≤ 16; decide⟩
  · split
    · exact ⟨by show (0 : Int) ≤ 0 ∧ (0 : Int) ≤ 15; decide, by show (0 : Int) ≤ 2 ∧ (2 : Int) ≤ 3; decide, by show 4 ≤ 16; decide⟩
    · split
      · exact ⟨by show (0 : Int) ≤ 0 ∧ (0 : Int) ≤ 15; decide, by show (0 : Int) ≤ 1 ∧ (1 : Int) ≤ 3; decide, by show 6 ≤ 16; decide⟩
      · exact ⟨by show (0 : Int) ≤ 0 ∧ (0 : Int) ≤ 15; decide, by show (0 : Int) ≤ 0 ∧ (0 : Int) ≤ 3; decide, by show (ipB a).length ≤ 16; rw [ipB_len]; decide⟩
theorem cl_cpa {hp : List OB} {m : Int} {k n : Nat} {x : Option Nat} {b : List UInt8} (h2 : hp[k]? = some (.arr x 1 (lst b8 b))) (h3 : n = b.length) : ClV hp (.agg [bool false, int 0, int m, .ov 1 k 0 n]) (cpaV ⟨false, 0, m, b⟩) :=
  .one (.aggC (.wk rfl .rfl) (.aggC (.wk rfl .rfl) (.aggC (.wk rfl .rfl) (.aggC (.all h2 h3) .aggN)))) (fun _ h => by cases h)
theorem k_group (a : IP) : Con Tryz.prog 151 [ipV a] [] (cpaV (groupF a)) [] := by
  have la := a.2.1
  have z1 := k_zero a 2 15 (by decide)
  have z2 := k_zero a 2 13 (by decide)
  have z3 := k_zero a 2 11 (by decide)
  have b1 := bA_eq (a := a) (i := 1) (by decide)
  unfold groupF
  by_cases h1 : gt a.1 1 = 2 ∧ zeroR a 2 15 = true
  · rw [if_pos h1]
    rw [h1.2] at z1
    refine Con.cl (r := .agg [bool false, int 0, int 3, .ov 1 0 0 1]) (hp' := [.arr (some 1) 1 (lst b8 [bA a 15])]) ?_ (cl_cpa rfl rfl) rfl
    have h11 := h1.1
    refine spec_of_run ttok mixed (T0 := 2147745887) (ts := [.cell 2 249]) 54 rfl rfl rfl rfl (by simp) rfl ?_
    conv => whnf
    repeat' (first | with_reducible apply True.intro | ((apply Same.mk (by show [SV.v (.int .u8 (gt a.1 15))] = _; rw [bA_eq (by decide)]; rfl)); (conv => whnf)) | ((apply Same.mk rfl); (conv => whnf)) | ((first | ((with_reducible apply Nm.mk); focus ((try simp only [lns, beN_len, ipB_len]); exact rfl)) | ((with_reducible apply Need.mk); focus omega) | (apply CallN.mk (z1)) | (with_reducible apply Bif.T) | ((with_reducible apply Bif.beq) <;> intro h <;> (try simp only [lns, beN_len, ipB_len] at h) <;> (try (exact absurd h11 h))) | (with_reducible apply Frz.l)) <;> conv => whnf) | fail)
  · rw [if_neg h1]
    by_cases h2 : zeroR a 2 13 = true
    · rw [if_pos h2]
      rw [h2] at z2
      refine Con.cl (r := .agg [bool false, int 0, int 2, .ov 1 0 0 4]) (hp' := [.arr (some 4) 1 (lst b8 [bA a 1, bA a 13, bA a 14, bA a 15])]) ?_ (cl_cpa rfl rfl) rfl
      refine spec_of_run ttok mixed (T0 := 2147745887) (ts := [.cell 2 249]) 54 rfl rfl rfl rfl (by simp) rfl ?_
      conv => whnf
      repeat' (first | with_reducible apply True.intro | ((apply Same.mk (by show [SV.v (.int .u8 (gt a.1 1)), .v (.int .u8 (gt a.1 13)), .v (.int .u8 (gt a.1 14)), .v (.int .u8 (gt a.1 15))] = _; rw [bA_eq (by decide), bA_eq (by decide), bA_eq (by decide), bA_eq (by decide)]; rfl)); (conv => whnf)) | ((apply Same.mk rfl); (conv => whnf)) | ((first | ((with_reducible apply Nm.mk); focus ((try simp only [lns, beN_len, ipB_len]); exact rfl)) | ((with_reducible apply Need.mk); focus omega) | (apply CallN.mk (z1)) | (apply CallN.mk (z2)) | (with_reducible first | apply Bif.T | apply Bif.F) | ((with_reducible apply Bif.beq) <;> intro h <;> (try simp only [lns, beN_len, ipB_len] at h)) | ((with_reducible apply Bif.mk) <;> intro h <;> (try (exact absurd ⟨by assumption, by assumption⟩ h1))) | (with_reducible apply Frz.l)) <;> conv => whnf) | fail)
    · rw [if_neg h2]
      rw [Bool.eq_false_iff.2 h2] at z2
      by_cases h3 : zeroR a 2 11 = true
      · rw [if_pos h3]
        rw [h3] at z3
        refine Con.cl (r := .agg [bool false, int 0, int 1, .ov 1 0 0 6]) (hp' := [.arr (some 6) 1 (lst b8 [bA a 1, bA a 11, bA a 12, bA a 13, bA a 14, bA a 15])]) ?_ (cl_cpa rfl rfl) rfl
        refine spec_of_run ttok mixed (T0 := 2147745887) (ts := [.cell 2 249]) 54 rfl rfl rfl rfl (by simp) rfl ?_
        conv => whnf
        repeat' (first | with_reducible apply True.intro | ((apply Same.mk (by show [SV.v (.int .u8 (gt a.1 1)), .v (.int .u8 (gt a.1 11)), .v (.int .u8 (gt a.1 12)), .v (.int .u8 (gt a.1 13)), .v (.int .u8 (gt a.1 14)), .v (.int .u8 (gt a.1 15))] = _; rw [bA_eq (by decide), bA_eq (by decide), bA_eq (by decide), bA_eq (by decide), bA_eq (by decide), bA_eq (by decide)]; rfl)); (conv => whnf)) | ((apply Same.mk rfl); (conv => whnf)) | ((first | ((with_reducible apply Nm.mk); focus ((try simp only [lns, beN_len, ipB_len]); exact rfl)) | ((with_reducible apply Need.mk); focus omega) | (apply CallN.mk (z1)) | (apply CallN.mk (z2)) | (apply CallN.mk (z3)) | (with_reducible first | apply Bif.T | apply Bif.F) | ((with_reducible apply Bif.beq) <;> intro h <;> (try simp only [lns, beN_len, ipB_len] at h)) | ((with_reducible apply Bif.mk) <;> intro h <;> (try (exact absurd ⟨by assumption, by assumption⟩ h1))) | (with_reducible apply Frz.l)) <;> conv => whnf) | fail)
      · rw [if_neg h3]
        rw [Bool.eq_false_iff.2 h3] at z3
        refine Con.cl (r := .agg [bool false, int 0, int 0, .ov 1 0 0 16]) (hp' := [.arr (some 16) 1 (lst b8 (ipB a))]) ?_ (cl_cpa rfl (ipB_len a).symm) rfl
        refine spec_of_run ttok mixed (T0 := 2147745887) (ts := [.cell 2 249]) 54 rfl rfl rfl rfl (by simp) rfl ?_
        conv => whnf
        repeat' (first | with_reducible apply True.intro | ((apply Nm.mk (nm_ip a)); (conv => whnf)) | ((apply Same.mk rfl); (conv => whnf)) | ((apply Same.mk (show [] ++ lst b8 (List.take 16 (ipB a)) ++ [] = lst b8 (ipB a) by rw [List.take_of_length_le (by rw [ipB_len]; decide)]; simp)); (conv => whnf)) | ((first | (with_reducible apply Nm.rep _ (rfl)) | ((with_reducible apply Nm.mk); focus ((try simp only [lns, beN_len, ipB_len]); exact rfl)) | ((with_reducible apply Need.mk); focus first | omega | (simp only [lns, beN_len, ipB_len]; omega) | (refine ⟨?_, ?_, ?_⟩ <;> first | omega | (unfold roomOK; omega) | fail)) | (apply CallN.mk (z1)) | (apply CallN.mk (z2)) | (apply CallN.mk (z3)) | (with_reducible first | apply Bif.T | apply Bif.F) | ((with_reducible apply Bif.beq) <;> intro h <;> (try simp only [lns, beN_len, ipB_len] at h)) | ((with_reducible apply Bif.mk) <;> intro h <;> (try (exact absurd ⟨by assumption, by assumption⟩ h1))) | (with_reducible apply Frz.l)) <;> conv => whnf) | fail)
end Go.Fw
