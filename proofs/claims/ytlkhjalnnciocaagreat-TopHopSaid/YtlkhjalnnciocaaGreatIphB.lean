/- Contexts: tables, which one compresses, which one decompresses. -/
import Derived.Test.YtlkhjalnnciocaaGreatSanJ

namespace Go.Fw
open Go.Proofs
set_option maxHeartbeats 8000000
set_option maxRecDepth 8000
theorem u8_nat {x : Int} (h : 0 ≤ x ∧ x ≤ 255) : SV.v (.int .u8 x) = b8 (UInt8.ofNat x.toNat) := by
  show SV.v (.int .u8 x) = SV.v (.int .u8 ((UInt8.ofNat x.toNat).toNat : Int))
  rw [UInt8.toNat_ofNat', Nat.mod_eq_of_lt (by omega)]
  congr 2; omega
structure Cxt where
  id : Int
  pfx : Pfx
  comp : Bool
  til : Int
  deriving Inhabited
def cxtV (c : Cxt) : SV := .agg [int c.id, pfxV c.pfx, bool c.comp, int c.til]
def cxt0 : Cxt := ⟨0, pfx0, false, 0⟩
def cxts (l : List Cxt) : SV := .fs .no 20 (lst cxtV l)
def prevC (l : List Cxt) (i : Nat) : Int := match i with | 0 => -1 | i + 1 => (gt l i).id
/-- A valid table. -/
structure VCx (l : List Cxt) : Prop where
  ids : ∀ i, i < l.length → prevC l i < (gt l i).id ∧ (gt l i).id < 16
  pfx : ∀ i, i < l.length → vPfx (gt l i).pfx = true
  til : ∀ i, i < l.length → isTm (gt l i).til
theorem VCx.nil : VCx [] := ⟨fun _ h => by simp at h, fun _ h => by simp at h, fun _ h => by simp at h⟩
theorem k_cValid (l : List Cxt) (h : VCx l) (hl : l.length ≤ 1000) : Con Tryz.prog 77 [cxts l] [] (bool true) [] := by
  refine spec_of_run ttok mixed (T0 := 1074791405) (ts := [.tmp 2]) 34 rfl rfl rfl rfl (by simp) rfl ?_
  conv => whnf
  repeat' (first | ((first | ((with_reducible apply Nm.mk); focus ((try simp only [lns, beN_len, ipB_len]); exact rfl)) | (with_reducible apply Frz.l)) <;> conv => whnf) | fail)
  refine loop_keep ttok mixed (T0 := 1074791405) [6, 7] (ι := {i : Nat // i ≤ l.length})
    (fun i => [(3, int (prevC l i.1)), (8, int (i.1 : Int))]) (fun _ => []) (fun i => l.length - i.1) ⟨0, by omega⟩ ?_
  conv => whnf
  repeat' (first | ((apply Same.mk rfl); (conv => whnf)) | ((with_reducible apply Frz.l) <;> conv => whnf) | fail)
  rintro ⟨i, hi⟩
  dsimp only
  conv => whnf
  by_cases hil : i < l.length
  · obtain ⟨h1, h2⟩ := h.ids i hil
    have h3 := k_ValidPrefix (gt l i).pfx
    rw [h.pfx i hil] at h3
    have h4 := k_vTime (gt l i).til
    rw [decide_eq_true (h.til i hil)] at h4
    repeat' (first | ((first | ((with_reducible apply Nm.mk); focus ((try simp only [lns, beN_len, ipB_len]); exact rfl)) | ((with_reducible apply Wr.i64); focus omega) | ((with_reducible apply Need.mk); focus (simp only [lns, beN_len, ipB_len]; omega)) | ((with_reducible apply Elem.lst); focus omega) | (apply CallN.mk (h3)) | (apply CallN.mk (h4)) | (with_reducible first | apply Bif.T | apply Bif.F) | ((with_reducible apply Bif.dec) <;> intro h <;> (try simp only [lns, beN_len, ipB_len] at h) <;> (try (exfalso; omega))) | (with_reducible apply Bif.not) | (with_reducible apply Frz.l)) <;> conv => whnf) | fail)
    (refine ⟨⟨i + 1, by omega⟩, ?_⟩; (try dsimp only); conv => whnf); repeat' (first | with_reducible apply True.intro | ((apply Same.mk rfl); (conv => whnf)) | ((first | ((with_reducible apply Need.mk); focus omega) | (with_reducible apply Turn.l) | (with_reducible apply Frz.l)) <;> conv => whnf) | fail)
  · repeat' (first | with_reducible apply True.intro | ((first | ((with_reducible apply Bif.dec) <;> intro h <;> (try simp only [lns, beN_len, ipB_len] at h) <;> (try (exfalso; omega))) | (apply Same.bool; focus (with_reducible rfl)) | (with_reducible apply Frz.l)) <;> conv => whnf) | fail)
def compC (c : Cxt) (now : Int) : Bool := c.comp && decide (now < c.til)
def decoC (c : Cxt) (now : Int) : Bool := decide (now < c.til + 32)
theorem k_compresses (c : Cxt) (now : Int) : Con Tryz.prog 213 [cxtV c, int now] [] (bool (compC c now)) [] := by
  refine spec_of_run ttok mixed (T0 := 23) (ts := [.tmp 4]) 13 rfl rfl rfl rfl (by simp) rfl ?_
  conv => whnf
  cases hc : c.comp
  all_goals
    rw [compC, hc]
    repeat' (first | with_reducible apply True.intro | ((apply Same.mk rfl); (conv => whnf)) | ((first | (with_reducible first | apply Bif.T | apply Bif.F) | (with_reducible apply Frz.l)) <;> conv => whnf) | fail)
theorem k_decompresses (c : Cxt) (now : Int) (h : isTm c.til) : Con Tryz.prog 201 [cxtV c, int now] [] (bool (decoC c now)) [] := by
  unfold isTm at h
  refine spec_of_run ttok mixed (T0 := 23) (ts := [.tmp 4]) 10 rfl rfl rfl rfl (by simp) rfl ?_
  conv => whnf
  repeat' (first | with_reducible apply True.intro | ((apply Same.mk rfl); (conv => whnf)) | ((first | ((with_reducible apply Wr.i64); focus omega) | (with_reducible apply Frz.l)) <;> conv => whnf) | fail)
/-- The context by which an address is compressed. -/
def okC (a : IP) (now : Int) (c : Cxt) : Bool := compC c now && decide (maskP a c.pfx.bits = c.pfx)
def stepC (a : IP) (now : Int) (best : Option Cxt) (c : Cxt) : Option Cxt :=
  if okC a now c = true then (match best with | none => some c | some b => if b.pfx.bits < c.pfx.bits then some c else some b) else best
def forC (l : List Cxt) (a : IP) (now : Int) : Option Cxt := l.foldl (stepC a now) none
def bestV (o : Option Cxt) : Cxt := o.getD cxt0
theorem forC_step {l : List Cxt} {a : IP} {now : Int} {i : Nat} (h : i < l.length) : forC (l.take (i + 1)) a now = stepC a now (forC (l.take i) a now) (gt l i) := by
  rw [forC, take_gt h, List.foldl_append]; rfl
theorem stepC_no {a : IP} {now : Int} {o : Option Cxt} {c : Cxt} (h : ¬ okC a now c = true) : stepC a now o c = o := if_neg h
theorem stepC_ok {a : IP} {now : Int} {o : Option Cxt} {c : Cxt} (h : okC a now c = true) : stepC a now o c = (match o with | none => some c | some b => if b.pfx.bits < c.pfx.bits then some c else some b) := if_pos h
theorem forC_some {l : List Cxt} {a : IP} {now : Int} {c : Cxt} (h : forC l a now = some c) : c ∈ l ∧ okC a now c = true := by
  have key : ∀ (r : List Cxt) (b : Option Cxt), r.foldl (stepC a now) b = some c → b = some c ∨ (c ∈ r ∧ okC a now c = true) := by
    intro r
    induction r with
    | nil => intro b h; exact .inl h
    | cons x r ih =>
      intro b h
      rcases ih _ h with g | ⟨g1, g2⟩
      · unfold stepC at g
        split at g
        · rename_i hx
          split at g
          · cases g; exact .inr ⟨by simp, hx⟩
          · split at g
            · cases g; exact .inr ⟨by simp, hx⟩
            · exact .inl g
        · exact .inl g
      · exact .inr ⟨by simp [g1], g2⟩
  rcases key l none h with g | g
  · cases g
  · exact g
theorem VCx.mem {l : List Cxt} (h : VCx l) {c : Cxt} (hc : c ∈ l) : vPfx c.pfx = true ∧ isTm c.til ∧ 0 ≤ c.id ∧ c.id < 16 := by
  obtain ⟨i, hi, rfl⟩ := List.mem_iff_getElem.1 hc
  rw [← gt_eq hi]
  refine ⟨h.pfx i hi, h.til i hi, ?_, (h.ids i hi).2⟩
  have pos : ∀ j, j < l.length → 0 ≤ (gt l j).id := by
    intro j
    induction j with
    | zero => intro hj; have := (h.ids 0 hj).1; simp only [prevC] at this; omega
    | succ j ih => intro hj; have := (h.ids (j + 1) hj).1; simp only [prevC] at this; have := ih (by omega); omega
  exact pos i hi
theorem k_ForC (l : List Cxt) (a : IP) (now : Int) (h : VCx l) (hn : isTm now) (hl : l.length ≤ 1000) : Con Tryz.prog 193 [cxts l, ipV a, int now] [] (.tup [cxtV (bestV (forC l a now)), bool (forC l a now).isSome]) [] := by
  have cv := k_cValid l h hl
  have ct := k_vTime now
  rw [decide_eq_true hn] at ct
  refine spec_of_run ttok mixed (T0 := 4505798714067927) (ts := [.cell 6 101, .tmp 7]) 57 rfl rfl rfl rfl (by simp) rfl ?_
  conv => whnf
  repeat' (first | ((first | ((with_reducible apply Nm.mk); focus ((try simp only [lns, beN_len, ipB_len]); exact rfl)) | (apply CallN.mk (cv)) | (apply CallN.mk (ct)) | (with_reducible first | apply Bif.T | apply Bif.F) | (with_reducible apply Bif.not) | (with_reducible apply Frz.l)) <;> conv => whnf) | fail)
  refine loop_keep ttok mixed (T0 := 4505798714067927) [2, 4, 6, 7, 8, 22, 23] (ι := {i : Nat // i ≤ l.length})
    (fun i => [(9, bool (forC (l.take i.1) a now).isSome), (24, int (i.1 : Int))]) (fun i => [.cells (ipV a), .cells (cxtV cxt0), .cells (cxtV (bestV (forC (l.take i.1) a now)))]) (fun i => l.length - i.1) ⟨0, by omega⟩ ?_
  conv => whnf
  repeat' (first | ((apply Same.mk rfl); (conv => whnf)) | ((with_reducible apply Frz.l) <;> conv => whnf) | fail)
  rintro ⟨i, hi⟩
  dsimp only
  conv => whnf
  by_cases hil : i < l.length
  · obtain ⟨h1, h2⟩ := h.ids i hil
    have hv := h.pfx i hil
    have cc := k_compresses (gt l i) now
    have cm := k_Mask a (gt l i).pfx.bits
    have hst := forC_step (a := a) (now := now) hil
    by_cases hc : compC (gt l i) now = true
    · rw [hc] at cc
      by_cases hm : maskP a (gt l i).pfx.bits = (gt l i).pfx
      · rw [hm] at cm
        have hok : okC a now (gt l i) = true := by rw [okC, hc, hm]; simp
        rw [stepC_ok hok] at hst
        cases hf : forC (l.take i) a now with
        | none =>
          rw [hf] at hst
          repeat' (first | ((apply Bif.ff (by rw [pfx_eq]; simp)); (conv => whnf)) | ((apply Bif.ff rfl); (conv => whnf)) | ((apply Bif.tt rfl); (conv => whnf)) | ((first | ((with_reducible apply Nm.mk); focus ((try simp only [lns, beN_len, ipB_len]); exact rfl)) | ((with_reducible apply Wr.i64); focus omega) | ((with_reducible apply Need.mk); focus first | (simp only [lns, beN_len, ipB_len]; omega) | kernel_rfl) | ((with_reducible apply Elem.lst); focus omega) | (apply CallN.mk (cc)) | (apply CallN.mk (cm)) | ((with_reducible apply Bif.dec) <;> intro h <;> (try simp only [lns, beN_len, ipB_len] at h) <;> (try (exfalso; omega))) | (with_reducible apply Frz.l)) <;> conv => whnf) | fail)
          (refine ⟨⟨i + 1, by omega⟩, ?_⟩; (try dsimp only); conv => whnf); repeat' (first | with_reducible apply True.intro | ((apply Same.mk (by rw [hst]; first | done | rfl)); (conv => whnf)) | ((first | ((with_reducible apply Need.mk); focus omega) | (with_reducible apply Same.rfl) | (apply Same.int; focus rfl) | (with_reducible apply Turn.l) | (with_reducible apply Frz.l)) <;> conv => whnf) | fail)
        | some b =>
          rw [hf] at hst
          dsimp only at hst
          by_cases hb : b.pfx.bits < (gt l i).pfx.bits
          · rw [if_pos hb] at hst
            repeat' (first | ((apply Bif.ff (by rw [pfx_eq]; simp)); (conv => whnf)) | ((apply Bif.tt (decide_eq_true hb)); (conv => whnf)) | ((apply Bif.ff rfl); (conv => whnf)) | ((first | ((with_reducible apply Nm.mk); focus ((try simp only [lns, beN_len, ipB_len]); exact rfl)) | ((with_reducible apply Wr.i64); focus omega) | ((with_reducible apply Need.mk); focus first | (simp only [lns, beN_len, ipB_len]; omega) | kernel_rfl) | ((with_reducible apply Elem.lst); focus omega) | (apply CallN.mk (cc)) | (apply CallN.mk (cm)) | ((with_reducible apply Bif.dec) <;> intro h <;> (try simp only [lns, beN_len, ipB_len] at h) <;> (try (exfalso; omega))) | (with_reducible apply Frz.l)) <;> conv => whnf) | fail)
            (refine ⟨⟨i + 1, by omega⟩, ?_⟩; (try dsimp only); conv => whnf); repeat' (first | with_reducible apply True.intro | ((apply Same.mk (by rw [hst]; first | done | rfl)); (conv => whnf)) | ((first | ((with_reducible apply Need.mk); focus omega) | (with_reducible apply Same.rfl) | (apply Same.int; focus rfl) | (with_reducible apply Turn.l) | (with_reducible apply Frz.l)) <;> conv => whnf) | fail)
          · rw [if_neg hb] at hst
            repeat' (first | ((apply Bif.ff (by rw [pfx_eq]; simp)); (conv => whnf)) | ((apply Bif.ff (decide_eq_false hb)); (conv => whnf)) | ((apply Bif.ff rfl); (conv => whnf)) | ((first | ((with_reducible apply Nm.mk); focus ((try simp only [lns, beN_len, ipB_len]); exact rfl)) | ((with_reducible apply Wr.i64); focus omega) | ((with_reducible apply Need.mk); focus first | (simp only [lns, beN_len, ipB_len]; omega) | kernel_rfl) | ((with_reducible apply Elem.lst); focus omega) | (apply CallN.mk (cc)) | (apply CallN.mk (cm)) | ((with_reducible apply Bif.dec) <;> intro h <;> (try simp only [lns, beN_len, ipB_len] at h) <;> (try (exfalso; omega))) | (with_reducible apply Frz.l)) <;> conv => whnf) | fail)
            (refine ⟨⟨i + 1, by omega⟩, ?_⟩; (try dsimp only); conv => whnf); repeat' (first | with_reducible apply True.intro | ((apply Same.mk (by rw [hst]; first | done | rfl)); (conv => whnf)) | ((first | ((with_reducible apply Need.mk); focus omega) | (with_reducible apply Same.rfl) | (apply Same.int; focus rfl) | (with_reducible apply Turn.l) | (with_reducible apply Frz.l)) <;> conv => whnf) | fail)
      · have hok : ¬ okC a now (gt l i) = true := by rw [okC, decide_eq_false hm]; simp
        rw [stepC_no hok] at hst
        repeat' (first | ((apply Bif.tt (by rw [pfx_eq]; simpa using hm)); (conv => whnf)) | ((first | ((with_reducible apply Nm.mk); focus ((try simp only [lns, beN_len, ipB_len]); exact rfl)) | ((with_reducible apply Wr.i64); focus omega) | ((with_reducible apply Need.mk); focus first | (simp only [lns, beN_len, ipB_len]; omega) | kernel_rfl) | ((with_reducible apply Elem.lst); focus omega) | (apply CallN.mk (cc)) | (apply CallN.mk (cm)) | (with_reducible first | apply Bif.T | apply Bif.F) | ((with_reducible apply Bif.dec) <;> intro h <;> (try simp only [lns, beN_len, ipB_len] at h) <;> (try (exfalso; omega))) | (with_reducible apply Bif.not) | (with_reducible apply Frz.l)) <;> conv => whnf) | fail)
        (refine ⟨⟨i + 1, by omega⟩, ?_⟩; (try dsimp only); conv => whnf); repeat' (first | with_reducible apply True.intro | ((apply Same.mk (by rw [hst])); (conv => whnf)) | ((first | ((with_reducible apply Need.mk); focus omega) | (with_reducible apply Same.rfl) | (apply Same.int; focus rfl) | (with_reducible apply Turn.l) | (with_reducible apply Frz.l)) <;> conv => whnf) | fail)
    · have hok : ¬ okC a now (gt l i) = true := by rw [okC, Bool.eq_false_iff.2 hc]; simp
      rw [stepC_no hok] at hst
      rw [Bool.eq_false_iff.2 hc] at cc
      repeat' (first | ((first | ((with_reducible apply Nm.mk); focus ((try simp only [lns, beN_len, ipB_len]); exact rfl)) | ((with_reducible apply Wr.i64); focus omega) | ((with_reducible apply Need.mk); focus first | (simp only [lns, beN_len, ipB_len]; omega) | kernel_rfl) | ((with_reducible apply Elem.lst); focus omega) | (apply CallN.mk (cc)) | (with_reducible first | apply Bif.T | apply Bif.F) | ((with_reducible apply Bif.dec) <;> intro h <;> (try simp only [lns, beN_len, ipB_len] at h) <;> (try (exfalso; omega))) | (with_reducible apply Bif.not) | (with_reducible apply Frz.l)) <;> conv => whnf) | fail)
      (refine ⟨⟨i + 1, by omega⟩, ?_⟩; (try dsimp only); conv => whnf); repeat' (first | with_reducible apply True.intro | ((apply Same.mk (by rw [hst])); (conv => whnf)) | ((first | ((with_reducible apply Need.mk); focus omega) | (with_reducible apply Same.rfl) | (apply Same.int; focus rfl) | (with_reducible apply Turn.l) | (with_reducible apply Frz.l)) <;> conv => whnf) | fail)
  · have he : l.take i = l := List.take_of_length_le (by omega)
    rw [he]
    repeat' (first | with_reducible apply True.intro | ((apply Same.mk rfl); (conv => whnf)) | ((first | ((with_reducible apply Bif.dec) <;> intro h <;> (try simp only [lns, beN_len, ipB_len] at h) <;> (try (exfalso; omega))) | (with_reducible apply Frz.l)) <;> conv => whnf) | fail)
end Go.Fw

/- Contexts: which one decompresses; a table of one. -/
namespace Go.Fw
open Go.Proofs
set_option maxHeartbeats 8000000
set_option maxRecDepth 8000
def okD (id now : Int) (c : Cxt) : Bool := decide (c.id = id) && decoC c now
theorem k_ForD (l : List Cxt) (id now : Int) (k : Nat) (h : VCx l) (hn : isTm now) (hl : l.length ≤ 1000) (hk : k < l.length) (h1 : ∀ j, j < k → okD id now (gt l j) = false) (h2 : okD id now (gt l k) = true) :
    Con Tryz.prog 161 [cxts l, int id, int now] [] (.tup [cxtV (gt l k), bool true]) [] := by
  have cv := k_cValid l h hl
  have ct := k_vTime now
  rw [decide_eq_true hn] at ct
  refine spec_of_run ttok mixed (T0 := 8597930695) (ts := [.cell 6 101, .tmp 7]) 37 rfl rfl rfl rfl (by simp) rfl ?_
  conv => whnf
  repeat' (first | ((first | ((with_reducible apply Nm.mk); focus ((try simp only [lns, beN_len, ipB_len]); exact rfl)) | (apply CallN.mk (cv)) | (apply CallN.mk (ct)) | (with_reducible first | apply Bif.T | apply Bif.F) | (with_reducible apply Bif.not) | (with_reducible apply Frz.l)) <;> conv => whnf) | fail)
  refine loop_keep ttok mixed (T0 := 8597930695) [1, 2, 6, 7, 19, 20] (ι := {i : Nat // i ≤ k})
    (fun i => [(21, int (i.1 : Int))]) (fun i => [.cells (cxtV cxt0)]) (fun i => k - i.1) ⟨0, by omega⟩ ?_
  conv => whnf
  repeat' (first | ((apply Same.mk rfl); (conv => whnf)) | ((with_reducible apply Frz.l) <;> conv => whnf) | fail)
  rintro ⟨i, hi⟩
  dsimp only
  conv => whnf
  have cd := k_decompresses (gt l i) now (h.til i (by omega))
  by_cases hik : i = k
  · subst hik
    simp only [okD, Bool.and_eq_true, decide_eq_true_eq] at h2
    rw [h2.2] at cd
    have e1 := h2.1
    repeat' (first | with_reducible apply True.intro | ((apply Same.mk rfl); (conv => whnf)) | ((first | ((with_reducible apply Nm.mk); focus ((try simp only [lns, beN_len, ipB_len]); exact rfl)) | ((with_reducible apply Need.mk); focus (simp only [lns, beN_len, ipB_len]; omega)) | ((with_reducible apply Elem.lst); focus omega) | (apply CallN.mk (cd)) | (with_reducible apply Bif.T) | ((with_reducible first | apply Bif.dec | apply Bif.beq) <;> intro h <;> (try simp only [lns, beN_len, ipB_len] at h) <;> (try (exfalso; omega))) | (with_reducible apply Frz.l)) <;> conv => whnf) | fail)
  · have h3 := h1 i (by omega)
    by_cases hid : (gt l i).id = id
    · have h4 : decoC (gt l i) now = false := by simpa [okD, hid] using h3
      rw [h4] at cd
      repeat' (first | ((first | ((with_reducible apply Nm.mk); focus ((try simp only [lns, beN_len, ipB_len]); exact rfl)) | ((with_reducible apply Wr.i64); focus omega) | ((with_reducible apply Need.mk); focus (simp only [lns, beN_len, ipB_len]; omega)) | ((with_reducible apply Elem.lst); focus omega) | (apply CallN.mk (cd)) | (with_reducible first | apply Bif.T | apply Bif.F) | ((with_reducible first | apply Bif.dec | apply Bif.beq) <;> intro h <;> (try simp only [lns, beN_len, ipB_len] at h) <;> (try (exfalso; omega))) | (with_reducible apply Frz.l)) <;> conv => whnf) | fail)
      (refine ⟨⟨i + 1, by omega⟩, ?_⟩; (try dsimp only); conv => whnf); repeat' (first | with_reducible apply True.intro | ((apply Same.mk rfl); (conv => whnf)) | ((first | ((with_reducible apply Need.mk); focus omega) | (with_reducible apply Turn.l) | (with_reducible apply Frz.l)) <;> conv => whnf) | fail)
    · repeat' (first | ((first | ((with_reducible apply Nm.mk); focus ((try simp only [lns, beN_len, ipB_len]); exact rfl)) | ((with_reducible apply Wr.i64); focus omega) | ((with_reducible apply Need.mk); focus (simp only [lns, beN_len, ipB_len]; omega)) | ((with_reducible apply Elem.lst); focus omega) | (with_reducible apply Bif.F) | ((with_reducible first | apply Bif.dec | apply Bif.beq) <;> intro h <;> (try simp only [lns, beN_len, ipB_len] at h) <;> (try (exfalso; omega))) | (with_reducible apply Frz.l)) <;> conv => whnf) | fail)
      (refine ⟨⟨i + 1, by omega⟩, ?_⟩; (try dsimp only); conv => whnf); repeat' (first | with_reducible apply True.intro | ((apply Same.mk rfl); (conv => whnf)) | ((first | ((with_reducible apply Need.mk); focus omega) | (with_reducible apply Turn.l) | (with_reducible apply Frz.l)) <;> conv => whnf) | fail)
theorem VCx.one {c : Cxt} (h1 : 0 ≤ c.id ∧ c.id < 16) (h2 : vPfx c.pfx = true) (h3 : isTm c.til) : VCx [c] :=
  ⟨fun i hi => by
    have : i = 0 := by simp at hi; exact hi
    subst this
    exact ⟨by show (-1 : Int) < c.id; omega, h1.2⟩, fun i hi => by
    have : i = 0 := by simp at hi; exact hi
    subst this; exact h2, fun i hi => by
    have : i = 0 := by simp at hi; exact hi
    subst this; exact h3⟩
end Go.Fw

/- IPHC: the forms of addresses. -/
namespace Go.Fw
open Go.Proofs
set_option maxHeartbeats 8000000
set_option maxRecDepth 8000
/-- A compressed address. -/
structure Cpa where
  ctx : Bool
  id : Int
  mode : Int
  bytes : List UInt8
def cpaV (f : Cpa) : SV := .agg [bool f.ctx, int f.id, int f.mode, bys f.bytes]
theorem k_AppS (v n : Nat) (hn : n ≤ 8) : Con Tryz.prog 72 [nilV, q64 (v : Int), int (n : Int)] [] (bys (beN n v)) [] :=
  (k_Append0 v n hn).cl (.one (ClR.all rfl (beN_len n v).symm) (fun _ h => by cases h)) rfl
theorem k_AppT (b : List UInt8) (v n : Nat) (hn : n ≤ 8) (hb : b.length ≤ 1000000) : Con Tryz.prog 72 [bys b, q64 (v : Int), int (n : Int)] [] (bys (b ++ beN n v)) [] :=
  (k_Append b v n .no hn hb).cl (.one (ClR.all rfl (by simp [beN_len])) (fun _ h => by cases h)) rfl
/-- The identifier of a short address. -/
def shortI (v : Nat) : Bool := decide (v / 65536 = 16776704)
theorem cutS {v : Nat} (hv : v ≤ 18446744073709551615) : IntKind.wrap .u64 ((BitVec.ofInt (IntKind.bits .u64) (v : Int) &&& ~~~ BitVec.ofInt (IntKind.bits .u64) 65535).toNat) = ((v / 65536 * 65536 : Nat) : Int) := by
  have e1 : (BitVec.ofInt 64 (v : Int) &&& ~~~ BitVec.ofInt 64 65535).toNat = v / 65536 * 65536 := by
    have e2 : BitVec.ofInt 64 (v : Int) = BitVec.ofNat 64 v := by rw [BitVec.ofInt_natCast]
    rw [e2]
    have e3 : (BitVec.ofNat 64 v &&& ~~~ BitVec.ofInt 64 65535) = (BitVec.ofNat 64 v >>> 16) <<< 16 := by
      apply BitVec.eq_of_getLsbD_eq
      intro i hi
      rw [BitVec.getLsbD_and, BitVec.getLsbD_not, BitVec.getLsbD_shiftLeft, BitVec.getLsbD_ushiftRight]
      have hm : (BitVec.ofInt 64 65535).getLsbD i = decide (i < 16) := by
        have : ∀ j : Fin 64, (BitVec.ofInt 64 65535).getLsbD j.1 = decide (j.1 < 16) := by decide +kernel
        exact this ⟨i, hi⟩
      rw [hm]
      by_cases h16 : i < 16
      · simp [h16]
      · simp [h16, hi, show 16 + (i - 16) = i by omega]
    rw [e3, BitVec.toNat_shiftLeft, BitVec.toNat_ushiftRight, BitVec.toNat_ofNat, Nat.mod_eq_of_lt (by omega), Nat.shiftRight_eq_div_pow, Nat.shiftLeft_eq]
    rw [Nat.mod_eq_of_lt (by omega)]
  show IntKind.wrap .u64 (((BitVec.ofInt 64 (v : Int) &&& ~~~ BitVec.ofInt 64 65535).toNat : Nat) : Int) = _
  rw [e1]
  simp [IntKind.wrap, IntKind.bits, IntKind.signed]; omega
def shortV (v : Nat) : SV := match shortI v with | true => .tup [bys (beN 2 v), bool true] | false => .tup [nilV, bool false]
theorem k_short (v : Nat) (hv : v ≤ 18446744073709551615) : Con Tryz.prog 197 [q64 (v : Int)] [] (shortV v) [] := by
  have ca := k_AppS v 2 (by decide)
  have hc := cutS hv
  unfold shortV
  cases hs : shortI v
  all_goals
    unfold shortI at hs
    simp only [decide_eq_true_eq, decide_eq_false_iff_not] at hs
    dsimp only
    refine spec_of_run ttok mixed (T0 := 77) (ts := [.tmp 2, .tmp 3]) 9 rfl rfl rfl rfl (by simp) rfl ?_
    conv => whnf
    rw [hc]
    repeat' (first | with_reducible apply True.intro | ((first | (apply CallN.mk (ca)) | ((with_reducible apply Bif.bne) <;> intro h <;> (try simp only [lns, beN_len, ipB_len] at h) <;> (try (exfalso; omega))) | (with_reducible apply Same.rfl) | (apply Same.bool; focus (with_reducible rfl)) | (apply Same.rfl) | (with_reducible apply Frz.l)) <;> conv => whnf) | fail)
theorem k_choose (loc : Bool) (c : Cxt) (m : Int) (b : List UInt8) : Con Tryz.prog 195 [int m, bys b, .pb 0 [], .pb 1 []] [.cells (bool loc), .cells (cxtV c)] (cpaV ⟨!loc, if loc = true then 0 else c.id, m, b⟩) [.cells (bool loc), .cells (cxtV c)] := by
  cases loc
  all_goals
    refine spec_of_run ttok mixed (T0 := 207) (ts := [.cell 6 249]) 16 rfl rfl rfl rfl (by simp) rfl ?_
    conv => whnf
    repeat' (first | with_reducible apply True.intro | ((apply Same.mk rfl); (conv => whnf)) | ((first | (with_reducible first | apply Bif.T | apply Bif.F) | (with_reducible apply Frz.l)) <;> conv => whnf) | fail)
def localI (a : IP) : Bool := decide (llP.bits ≤ 64 ∧ ipN llP.ip (loN a) = a)
/-- The context that is used for an address. -/
def knownC (l : List Cxt) (a : IP) (now : Int) : Option Cxt := (forC l a now).bind fun c => if c.pfx.bits ≤ 64 ∧ ipN c.pfx.ip (loN a) = a then some c else none
def chF (loc : Bool) (c : Cxt) (m : Int) (b : List UInt8) : Cpa := ⟨!loc, if loc = true then 0 else c.id, m, b⟩
def uniF (a : IP) (e : Nat) (s : Bool) (l : List Cxt) (now : Int) : Cpa :=
  if s = true ∧ a = ip0 then ⟨true, 0, 0, []⟩
  else if localI a = false ∧ (knownC l a now).isSome = false then ⟨false, 0, 0, beN 8 (hiN a) ++ beN 8 (loN a)⟩
  else if iidL e = loN a then chF (localI a) (bestV (forC l a now)) 3 []
  else if shortI (loN a) = true then chF (localI a) (bestV (forC l a now)) 2 (beN 2 (loN a))
  else chF (localI a) (bestV (forC l a now)) 1 (beN 8 (loN a))
end Go.Fw

/- IPHC: the form of an address that is not a multicast address. -/
namespace Go.Fw
open Go.Proofs
set_option maxHeartbeats 8000000
set_option maxRecDepth 8000
theorem loN_le (a : IP) : loN a ≤ 18446744073709551615 := by
  have := beV_lt 8 ((ipB a).drop 8) (by simp [ipB_len])
  unfold loN; omega
theorem k_high (a : IP) : Con Tryz.prog 194 [ipV a] [] (q64 (hiN a : Int)) [] := by
  have cs := k_aSplit a
  refine spec_of_run ttok mixed (T0 := 15) (ts := [.tmp 2]) 11 rfl rfl rfl rfl (by simp) rfl ?_
  conv => whnf
  repeat' (first | with_reducible apply True.intro | ((first | (apply CallN.mk (cs)) | (with_reducible apply Same.rfl) | (with_reducible apply Frz.l)) <;> conv => whnf) | fail)
theorem k_uni0 (e : Nat) (l : List Cxt) (now : Int) : Con Tryz.prog 149 [ipV ip0, lnkV e, bool true, cxts l, int now] [] (cpaV ⟨true, 0, 0, []⟩) [] := by
  refine Con.cl (r := .agg [bool true, int 0, int 0, nilV]) (hp' := []) ?_ (.one (.aggC (.wk rfl .rfl) (.aggC (.wk rfl .rfl) (.aggC (.wk rfl .rfl) (.aggC (.wk rfl .nilS) .aggN)))) (fun _ h => by cases h)) rfl
  refine spec_of_run ttok mixed (T0 := 9709185632895178773623935) (ts := [.cell 10 249]) 91 rfl rfl rfl rfl (by simp) rfl ?_
  conv => whnf
  repeat' (first | with_reducible apply True.intro | ((apply Same.mk rfl); (conv => whnf)) | ((first | (with_reducible apply Bif.T) | ((with_reducible apply Bif.beq) <;> intro h <;> (try simp only [lns, beN_len, ipB_len] at h) <;> (try (exact absurd rfl h))) | (with_reducible apply Frz.l)) <;> conv => whnf) | fail)
theorem k_uniN (a : IP) (e : Nat) (s : Bool) (l : List Cxt) (now : Int) (h : VCx l) (hn : isTm now) (hl : l.length ≤ 1000) (he : e ≤ 18446744073709551615) (h0 : ¬ (s = true ∧ a = ip0)) (h1 : localI a = false) (h2 : forC l a now = none) :
    Con Tryz.prog 149 [ipV a, lnkV e, bool s, cxts l, int now] [] (cpaV ⟨false, 0, 0, beN 8 (hiN a) ++ beN 8 (loN a)⟩) [] := by
  have cs := k_aSplit a
  have cw := k_within llP a (loN a) llP_v
  rw [show decide (llP.bits ≤ 64 ∧ ipN llP.ip (loN a) = a) = false from h1] at cw
  have cf := k_ForC l a now h hn hl
  rw [h2] at cf
  change Con _ _ _ _ (.tup [cxtV cxt0, bool false]) _ at cf
  have ch := k_high a
  have a1 := k_AppS (hiN a) 8 (by decide)
  have a2 := k_AppT (beN 8 (hiN a)) (loN a) 8 (by decide) (by rw [beN_len]; decide)
  have hne : s = true → a.1 ≠ List.replicate 16 0 := fun hs h => h0 ⟨hs, ip_ext h⟩
  cases s
  all_goals
    refine spec_of_run ttok mixed (T0 := 9709185632895178773623935) (ts := [.cell 10 249]) 91 rfl rfl rfl rfl (by simp) rfl ?_
    conv => whnf
    repeat' (first | with_reducible apply True.intro | ((apply Same.mk rfl); (conv => whnf)) | ((first | ((with_reducible apply Need.mk); focus kernel_rfl) | (apply CallN.mk (cs)) | (apply CallN.mk (cf)) | (apply CallN.mk (k_linkLocal)) | (apply CallN.mk (cw)) | (apply CallN.mk (ch)) | (apply CallN.mk (a1)) | (apply CallN.mk (a2)) | (with_reducible first | apply Bif.T | apply Bif.F) | ((with_reducible apply Bif.beq) <;> intro h <;> (try simp only [lns, beN_len, ipB_len] at h) <;> (try (exact absurd h (hne rfl)))) | (with_reducible apply Bif.not) | (with_reducible apply Frz.l)) <;> conv => whnf) | fail)
end Go.Fw
