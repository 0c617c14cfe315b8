/- Whole datagrams: the plain law of adding. -/
import Derived.Test.YtlkhjalnnciocaaGreatHrW

namespace Go.Fw
set_option maxRecDepth 4000
open Go.Proofs
set_option maxHeartbeats 4000000
structure Dat where
  src : Adr
  dst : Adr
  tag : Int
  b : List UInt8
  f : List Frg
  hs : someA src = true
  hd : someA dst = true
  hb : 1 ≤ b.length ∧ b.length ≤ 2047
  ch : Chn b tag 0 f
namespace Dat
variable (D : Dat)
/-- The buffer of a datagram of which these parts were seen. -/
def buf (s : List Bool) (u : Int) : Buf := ⟨D.src, D.dst, D.tag, D.b.length, sel s D.f, u⟩
theorem ne : D.f ≠ [] := fun e => by
  have h := D.ch
  rw [e] at h
  have h : 0 = D.b.length := h
  have := D.hb
  omega
theorem pos : 0 < D.f.length := List.length_pos_iff.2 D.ne
/-- Some parts were seen, not all. -/
structure St (s : List Bool) (u : Int) : Prop where
  len : s.length = D.f.length
  some_ : ∃ j : Nat, s[j]? = some true
  not_ : s.all id = false
  tm : isTm u
theorem ok {k : Nat} (hk : k < D.f.length) : okF (gt D.f k) = true := (chn_parts D.ch).ok hk
theorem fields {k : Nat} (hk : k < D.f.length) : (gt D.f k).size = D.b.length ∧ (gt D.f k).tag = D.tag := by
  obtain ⟨_, h1, h2, _⟩ := (chn_parts D.ch).all _ (gt_mem hk)
  exact ⟨h1, h2⟩
theorem valid {s : List Bool} {u : Int} (h : D.St s u) : validB (D.buf s u) = true := by
  obtain ⟨j, hj⟩ := h.some_
  have hjl : j < D.f.length := by rw [← h.len]; exact (List.getElem?_eq_some_iff.1 hj).1
  have hne : sel s D.f ≠ [] := List.ne_nil_of_mem (mem_sel hjl hj)
  have hp := (join_some D.ch h.len h.not_).1
  rw [validB]
  simp only [Bool.and_eq_true, decide_eq_true_eq]
  exact ⟨D.hs, D.hd, h.tm, hne, hp⟩
theorem key {s : List Bool} {u : Int} {k : Nat} (hk : k < D.f.length) : keyF D.src D.dst (gt D.f k) (D.buf s u) = true := by
  obtain ⟨h1, h2⟩ := D.fields hk
  simp [keyF, buf, h1, h2]
theorem add_hit {l : List Buf} {i k : Nat} {s : List Bool} {u now : Int} (hv : validL l = true) (hx : ∀ x ∈ l, x.upto > now) (hn : isTm now) (hi : i < l.length) (hg : gt l i = D.buf s u) (hs : s.length = D.f.length) (hk : k < D.f.length) :
    addM l D.src D.dst (gt D.f k) now = if (s.set k true).all id = true then (l.eraseIdx i, D.b, 0) else (l.set i (D.buf (s.set k true) u), [], 0) := by
  have hE : expB l now = l := filter_all fun j hj => decide_eq_true (hx _ (gt_mem hj))
  have hkey := D.key (s := s) (u := u) hk
  have hvl := validL_iff.1 hv
  have hany : l.any (keyF D.src D.dst (gt D.f k)) = true := List.any_eq_true.2 ⟨_, gt_mem hi, by rw [hg]; exact hkey⟩
  have hidx : idxF (keyF D.src D.dst (gt D.f k)) l = (i : Int) := idxF_some hi (by rw [hg]; exact hkey) fun j hj => by
    have h1 := (hvl.2 i hi).2 j hj
    rw [hg] at h1
    obtain ⟨f1, f2⟩ := D.fields hk
    cases hc : keyF D.src D.dst (gt D.f k) (gt l j) with
    | false => rfl
    | true =>
      have hc : (gt l j).src = D.src ∧ (gt l j).dst = D.dst ∧ (gt l j).tag = (gt D.f k).tag ∧ (gt l j).size = (gt D.f k).size := by simpa [keyF] using hc
      have : keyB (gt l j) (D.buf s u) = true := keyB_iff.2 ⟨hc.1, hc.2.1, by rw [hc.2.2.1, f2]; rfl, by rw [hc.2.2.2, f1]; rfl⟩
      rw [h1] at this
      cases this
  have hw : withB (gt l i) (gt D.f k) (freshB D.src D.dst (gt D.f k) now) = D.buf (s.set k true) u := by
    rw [withB, hg, show (D.buf s u).parts = sel s D.f from rfl, addP_sel D.ch hs hk]
    rfl
  rw [addM_ok ⟨hv, D.hs, D.hd, D.ok hk⟩ hn, hE, if_pos hany, hidx, Int.toNat_natCast, hw, finB_eq (ps := sel (s.set k true) D.f) (by rw [gt_set hi, if_pos rfl]; rfl)]
  have hsl : (s.set k true).length = D.f.length := by rw [List.length_set]; exact hs
  cases ha : (s.set k true).all id with
  | true =>
    rw [sel_all hsl ha, join_all D.ch D.ne D.hb.1, if_pos rfl, if_pos rfl]
    congr 1
    rw [List.eraseIdx_eq_take_drop_succ, List.eraseIdx_eq_take_drop_succ]
    rw [List.take_set_of_le (Nat.le_refl i), List.drop_set_of_lt (by omega)]
  | false =>
    rw [(join_some D.ch hsl ha).2.1, if_neg (by simp), if_neg (by simp)]
def unit (k : Nat) : List Bool := (List.replicate D.f.length false).set k true
theorem sel_none {α : Type} : ∀ {n : Nat} {l : List α}, sel (List.replicate n false) l = []
  | 0, l => by cases l <;> rfl
  | n + 1, [] => rfl
  | n + 1, x :: r => by rw [List.replicate_succ, sel]; exact sel_none
theorem sel_unit {k : Nat} (hk : k < D.f.length) : sel (D.unit k) D.f = [gt D.f k] := by
  have h := addP_sel (s := List.replicate D.f.length false) D.ch (by simp) hk
  rw [sel_none, addP] at h
  simp only [List.any_nil, Bool.false_eq_true, if_false, Option.some.injEq] at h
  rw [unit, ← h]
  rfl
theorem unit_len (k : Nat) : (D.unit k).length = D.f.length := by simp [unit]
theorem add_new {l : List Buf} {k : Nat} {now : Int} (hv : validL l = true) (hx : ∀ x ∈ l, x.upto > now) (hn : isTm now) (hkey : ∀ x ∈ l, keyF D.src D.dst (gt D.f k) x = false) (hl : l.length < 4) (hk : k < D.f.length) :
    addM l D.src D.dst (gt D.f k) now = if (D.unit k).all id = true then (l, D.b, 0) else (l ++ [D.buf (D.unit k) (min (now + 12) 1099511627776)], [], 0) := by
  have hE : expB l now = l := filter_all fun j hj => decide_eq_true (hx _ (gt_mem hj))
  have hany : l.any (keyF D.src D.dst (gt D.f k)) = false := by
    rw [List.any_eq_false]
    intro x hx
    rw [hkey x hx]; simp
  obtain ⟨f1, f2⟩ := D.fields hk
  have hfr : freshB D.src D.dst (gt D.f k) now = D.buf (D.unit k) (min (now + 12) 1099511627776) := by
    unfold freshB buf
    rw [D.sel_unit hk, f1, f2]
  rw [addM_ok ⟨hv, D.hs, D.hd, D.ok hk⟩ hn, hE, hany, if_neg (by simp), if_neg (by omega), hfr, finB_eq (ps := sel (D.unit k) D.f) (by rw [gt_snoc]; rfl)]
  cases ha : (D.unit k).all id with
  | true =>
    rw [sel_all (D.unit_len k) ha, join_all D.ch D.ne D.hb.1, if_pos rfl, if_pos rfl, List.eraseIdx_append_of_length_le (Nat.le_refl _)]
    simp
  | false =>
    rw [(join_some D.ch (D.unit_len k) ha).2.1, if_neg (by simp), if_neg (by simp)]
theorem St.set {s : List Bool} {u : Int} (h : D.St s u) {k : Nat} (ha : (s.set k true).all id = false) : D.St (s.set k true) u := by
  obtain ⟨j, hj⟩ := h.some_
  refine ⟨by rw [List.length_set]; exact h.len, ⟨j, ?_⟩, ha, h.tm⟩
  rw [List.getElem?_set]
  split
  · rename_i e
    subst e
    rw [if_pos (List.getElem?_eq_some_iff.1 hj).1]
  · exact hj
theorem St.unit {k : Nat} {now : Int} (hk : k < D.f.length) (hn : isTm now) (ha : (D.unit k).all id = false) : D.St (D.unit k) (min (now + 12) 1099511627776) :=
  ⟨D.unit_len k, ⟨k, by simp [Dat.unit, hk]⟩, ha, by unfold isTm at *; omega⟩
end Dat
theorem validL_nil : validL [] = true := by decide
theorem validL_one {x : Buf} (h : validB x = true) : validL [x] = true := by simp [validL, h]
theorem not_all {s : List Bool} {j : Nat} (h : s[j]? = some false) : s.all id = false := by
  rw [List.all_eq_false]
  exact ⟨false, List.mem_of_getElem? h, by simp⟩
namespace Dat
variable (D : Dat)
theorem siz {s : List Bool} {u : Int} (h : D.St s u) : sizB (D.buf s u) := by
  obtain ⟨h1, h2⟩ := validB_parts (D.valid h)
  exact ⟨by omega, fun f hf => by have := (h2 f hf).2; omega⟩
theorem dlen {k : Nat} (hk : k < D.f.length) : 1 ≤ (gt D.f k).data.length ∧ (gt D.f k).data.length ≤ 2047 := by
  have := okF_iff.1 (D.ok hk)
  omega
theorem siz1 {s : List Bool} {u : Int} (h : D.St s u) : sizL [D.buf s u] := ⟨by simp, fun b hb => by rw [List.mem_singleton.1 hb]; exact D.siz h⟩
theorem hit1 {s : List Bool} {u now : Int} {k : Nat} (h : D.St s u) (hu : u > now) (hn : isTm now) (hk : k < D.f.length) : addM [D.buf s u] D.src D.dst (gt D.f k) now = if (s.set k true).all id = true then ([], D.b, 0) else ([D.buf (s.set k true) u], [], 0) :=
  D.add_hit (l := [D.buf s u]) (i := 0) (s := s) (u := u) (validL_one (D.valid h)) (fun x hx => by rw [List.mem_singleton.1 hx]; exact hu) hn (by simp) rfl h.len hk
theorem new0 {now : Int} {k : Nat} (hn : isTm now) (hk : k < D.f.length) : addM [] D.src D.dst (gt D.f k) now = if (D.unit k).all id = true then ([], D.b, 0) else ([D.buf (D.unit k) (min (now + 12) 1099511627776)], [], 0) :=
  D.add_new (l := []) validL_nil (by simp) hn (by simp) (by simp) hk
end Dat
end Go.Fw

/- Fragments: Split of the program, walked. -/
namespace Go.Fw
open Go.Proofs
set_option maxHeartbeats 8000000
set_option maxRecDepth 4000
theorem k_Split0 (b : List UInt8) (tag : Int) (room : Nat) (t : Tg) (hb : 1 ≤ b.length ∧ b.length ≤ 2047) (hr : 13 ≤ room ∧ room ≤ 1000) :
    Con Tryz.prog 93 [.fs t 1 (lst b8 b), .v (.int .u16 tag), int room] [] (.tup [.ov 4 0 0 (spF room tag b b.length 0).length, int 0]) [.arr none 4 (lst frgC (spF room tag b b.length 0))] := by
  refine spec_of_run ttok mixed (T0 := 34633424839) (ts := [.tmp 6, .tmp 7]) 62 rfl rfl rfl rfl (by simp) rfl ?_
  conv => whnf
  repeat' (first | ((first | ((with_reducible apply Nm.mk); focus ((try simp only [lns]); exact rfl)) | ((with_reducible apply Wr.i64); focus omega) | (with_reducible apply Bif.F) | ((with_reducible apply Bif.dec) <;> intro h <;> (try simp only [lns] at h) <;> (try (exfalso; omega))) | (with_reducible apply Frz.l)) <;> conv => whnf) | fail)
  refine LoopN.adopt 8 4 rfl (by simp) ?_
  refine loop_keep ttok mixed (T0 := 34633424839) [0, 1, 2] (ι := SpI room tag b)
    (fun p => [(8, .ov 4 0 0 p.o.length), (9, int (if 0 < p.a then (room : Int) - 5 else (room : Int) - 4)), (10, int (p.a : Int))]) (fun p => [.arr none 4 (lst frgC p.o)]) (fun p => b.length - p.a) ⟨0, [], b.length, by omega, by omega, by simp, rfl⟩ ?_
  conv => whnf
  repeat' (first | ((first | (with_reducible apply Same.rfl) | (apply Same.int; focus rfl) | (apply Same.ov; (focus rfl); focus rfl) | (apply Same.rfl) | (with_reducible apply Frz.l)) <;> conv => whnf) | fail)
  rintro ⟨a, o, k, ha, hk, ho, he⟩
  dsimp only
  conv => whnf
  by_cases hab : a < b.length
  · have hc := cutN_le hab hr.1
    rcases k with _ | k
    · omega
    rw [spF, if_pos hab] at he
    have hcut : cutN room a b.length = if b.length - a > (if 0 < a then room - 5 else room - 4) then (if 0 < a then room - 5 else room - 4) / 8 * 8 else b.length - a := rfl
    generalize cutN room a b.length = c at *
    obtain ⟨s, hs⟩ : ∃ s : Nat, s = if 0 < a then room - 5 else room - 4 := ⟨_, rfl⟩
    have hsp : (if 0 < a then (room : Int) - 5 else (room : Int) - 4) = (s : Int) := by rw [hs]; split <;> omega
    rw [← hs] at hcut
    have hs1 : 8 ≤ s ∧ s ≤ 996 := by rw [hs]; split <;> omega
    have e4 : (s : Int).tmod 8 = ((s % 8 : Nat) : Int) := by rw [Int.tmod_eq_emod_of_nonneg (by omega)]; omega
    have hmin : min c (b.length - a) = c := by omega
    have hnx : (if 0 < a + c then (room : Int) - 5 else (room : Int) - 4) = (room : Int) - 5 := if_pos (by omega)
    have hk2 : b.length - (a + c) ≤ k := by omega
    have ho2 : (o ++ [(⟨b.length, tag, a, (b.drop a).take c⟩ : Frg)]).length ≤ a + c := by rw [List.length_append, List.length_singleton]; omega
    have he2 : (o ++ [(⟨b.length, tag, a, (b.drop a).take c⟩ : Frg)]) ++ spF room tag b k (a + c) = spF room tag b b.length 0 := by rw [List.append_assoc]; exact he
    have e3 : ∀ X : List SV, X = lst b8 ((b.drop a).take c) → lst frgC o ++ [SV.agg [natLen b.length, .v (.int .u16 tag), int (a : Int), .fs ⟨Option.map (fun x => x) (some c), false⟩ 1 X]] = lst frgC (o ++ [⟨b.length, tag, a, (b.drop a).take c⟩]) := by
      rintro X rfl
      rw [← lst_snoc]
      have hl : ((b.drop a).take c).length = c := by rw [List.length_take, List.length_drop]; omega
      show _ = lst frgC o ++ [SV.agg [_, _, _, .fs ⟨some ((b.drop a).take c).length, false⟩ 1 _]]
      rw [hl]; rfl
    have e5 : c ≤ b.length - a := by omega
    simp only [hsp]
    by_cases hm : b.length - a > s
    · rw [if_pos hm] at hcut
      have ec : (s : Int) - ((s % 8 : Nat) : Int) = (c : Int) := by omega
      repeat' (first | ((first | (with_reducible apply Nm.rep _ (rfl)) | ((with_reducible apply Nm.mk); focus ((try simp only [lns, e4, ec, hmin]); exact rfl)) | ((with_reducible apply Wr.i64); focus omega) | ((with_reducible apply Need.mk); focus first | omega | (simp only [lns, e4, ec, hmin]; omega) | (unfold roomOK; simp only [lns, e4, ec, hmin]; omega)) | ((with_reducible apply Bif.dec) <;> intro h <;> (try simp only [lns, e4, ec, hmin] at h) <;> (try (exfalso; omega))) | (with_reducible apply Alt.l) | (with_reducible apply Frz.l)) <;> conv => whnf) | fail)
      (refine ⟨⟨a + c, _, k, by omega, hk2, ho2, he2⟩, ?_⟩; (try dsimp only); conv => whnf); repeat' (first | with_reducible apply True.intro | ((apply Same.mk (e3 _ (by simp [lst, List.take_take, Nat.min_eq_left e5]))); (conv => whnf)) | ((first | ((with_reducible apply Need.mk); focus omega) | (with_reducible apply Same.rfl) | (apply Same.int; focus omega) | (apply Same.ov; (focus rfl); focus (simp only [lns]; first | done | omega)) | (with_reducible apply Turn.l) | (with_reducible apply Frz.l)) <;> conv => whnf) | fail)
    · rw [if_neg hm] at hcut
      have ec : (b.length : Int) - (a : Int) = (c : Int) := by omega
      repeat' (first | ((first | (with_reducible apply Nm.rep _ (rfl)) | ((with_reducible apply Nm.mk); focus ((try simp only [lns, e4, ec, hmin]); exact rfl)) | ((with_reducible apply Wr.i64); focus omega) | ((with_reducible apply Need.mk); focus first | (simp only [lns, e4, ec, hmin]; omega) | (unfold roomOK; simp only [lns, e4, ec, hmin]; omega)) | ((with_reducible apply Bif.dec) <;> intro h <;> (try simp only [lns, e4, ec, hmin] at h) <;> (try (exfalso; omega))) | (with_reducible apply Alt.l) | (with_reducible apply Frz.l)) <;> conv => whnf) | fail)
      (refine ⟨⟨a + c, _, k, by omega, hk2, ho2, he2⟩, ?_⟩; (try dsimp only); conv => whnf); repeat' (first | with_reducible apply True.intro | ((apply Same.mk (e3 _ (by simp [lst, List.take_take, Nat.min_eq_left e5]))); (conv => whnf)) | ((first | ((with_reducible apply Need.mk); focus omega) | (with_reducible apply Same.rfl) | (apply Same.int; focus omega) | (apply Same.ov; (focus rfl); focus (simp only [lns]; first | done | omega)) | (with_reducible apply Turn.l) | (with_reducible apply Frz.l)) <;> conv => whnf) | fail)
  · have hfin : o = spF room tag b b.length 0 := by
      rw [← he]
      cases k with
      | zero => simp [spF]
      | succ k => rw [spF, if_neg hab, List.append_nil]
    rw [← hfin]
    repeat' (first | with_reducible apply True.intro | ((first | ((with_reducible apply Nm.mk); focus ((try simp only [lns]); exact rfl)) | ((with_reducible apply Bif.dec) <;> intro h <;> (try simp only [lns] at h) <;> (try (exfalso; omega))) | (with_reducible apply Same.rfl) | (apply Same.int; focus rfl) | (with_reducible apply Cut.l) | (with_reducible apply Frz.l)) <;> conv => whnf) | fail)
end Go.Fw

/- Fragments as bytes: Encode, Decode. -/
namespace Go.Fw
open Go.Proofs
set_option maxHeartbeats 8000000
set_option maxRecDepth 8000
def mrk (a : Nat) : Nat := if 0 < a then 57344 else 49152
def offB (a : Nat) : List UInt8 := if 0 < a then beN 1 (a / 8) else []
def encG (s g a : Nat) (d : List UInt8) : List UInt8 := beN 2 (mrk a + s) ++ beN 2 g ++ offB a ++ d
theorem encG_len (s g a : Nat) (d : List UInt8) : (encG s g a d).length = 4 + (if 0 < a then 1 else 0) + d.length := by
  unfold encG offB; split <;> simp [beN_len] <;> omega
theorem k_fEncO (s g a : Nat) (d : List UInt8) (t : Tg) (hg : g ≤ 65535) (ok : okF ⟨s, g, a, d⟩ = true) :
    Con Tryz.prog 94 [frgT t ⟨s, g, a, d⟩] [] (.tup [.ov 1 0 0 (encG s g a d).length, int 0]) [.arr none 1 (lst b8 (encG s g a d))] := by
  have h := okF_iff.1 ok
  dsimp only at h
  have hv := k_fValid ⟨s, g, a, d⟩ t (by dsimp only; omega)
  rw [ok] at hv
  change Con _ _ [SV.agg [int (s : Int), .v (.int .u16 (g : Int)), int (a : Int), .fs t 1 (lst b8 d)]] _ _ _ at hv
  change Con _ _ [SV.agg [int (s : Int), .v (.int .u16 (g : Int)), int (a : Int), .fs t 1 (lst b8 d)]] _ _ _
  have b1 := k_Append0 (mrk a + s) 2 (by decide)
  have b2 := fun t => k_Append (beN 2 (mrk a + s)) g 2 t (by decide) (by simp [beN_len])
  have b3 := fun t => k_Append (beN 2 (mrk a + s) ++ beN 2 g) (a / 8) 1 t (by decide) (by simp [beN_len])
  have hL := encG_len s g a d
  by_cases h0 : 0 < a
  · have ed : (a : Int).tdiv 8 = ((a / 8 : Nat) : Int) := by rw [Int.tdiv_eq_ediv_of_nonneg (by omega)]; omega
    have hm : mrk a = 57344 := if_pos h0
    have ho : offB a = beN 1 (a / 8) := if_pos h0
    rw [hm] at b1 b2 b3
    rw [if_pos h0] at hL
    have e : encG s g a d = beN 2 (57344 + s) ++ beN 2 g ++ beN 1 (a / 8) ++ d := by unfold encG; rw [hm, ho]
    rw [e] at hL ⊢
    refine spec_of_run ttok mixed (T0 := 33556799) (ts := [.tmp 2, .tmp 3]) 36 rfl rfl rfl rfl (by simp) rfl ?_
    conv => whnf
    repeat' (first | with_reducible apply True.intro | ((apply Nm.mk (nm_all (by simp [beN_len]))); (conv => whnf)) | ((with_reducible apply Nm.mk (lst_app _ _)); (conv => whnf)) | ((first | ((with_reducible apply Nm.mk); focus ((try simp only [lns, beN_len, beN_len, ed]); exact rfl)) | ((with_reducible first | apply Wr.i64 | apply Wr.u64); focus omega) | ((with_reducible apply Need.mk); focus first | omega | (simp only [lns, beN_len, beN_len, ed]; omega) | exact CleanP.lst rfl (fun _ => rfl) | (unfold roomOK; simp only [lns, beN_len, beN_len, ed]; omega)) | (apply CallN.mk (hv)) | (apply CallN.mk (b1)) | (apply CallN.mk (b2 _)) | (apply CallN.mk (b3 _)) | (with_reducible apply Bif.T) | ((with_reducible apply Bif.dec) <;> intro h <;> (try simp only [lns, beN_len, beN_len, ed] at h) <;> (try (exfalso; omega))) | (with_reducible apply Bif.not) | (with_reducible apply Same.rfl) | (apply Same.int; focus rfl) | ((with_reducible apply Same.mk); focus omega) | (with_reducible first | apply Alt.l | apply Cut.l | apply GiveN.lend) | (with_reducible apply Frz.l)) <;> conv => whnf) | fail)
  · have hm : mrk a = 49152 := if_neg h0
    have ho : offB a = [] := if_neg h0
    rw [hm] at b1 b2
    rw [if_neg h0] at hL
    have e : encG s g a d = beN 2 (49152 + s) ++ beN 2 g ++ d := by unfold encG; rw [hm, ho, List.append_nil]
    rw [e] at hL ⊢
    refine spec_of_run ttok mixed (T0 := 33556799) (ts := [.tmp 2, .tmp 3]) 36 rfl rfl rfl rfl (by simp) rfl ?_
    conv => whnf
    repeat' (first | with_reducible apply True.intro | ((apply Nm.mk (nm_all (by simp [beN_len]))); (conv => whnf)) | ((with_reducible apply Nm.mk (lst_app _ _)); (conv => whnf)) | ((first | ((with_reducible apply Nm.mk); focus ((try simp only [lns, beN_len, beN_len]); exact rfl)) | ((with_reducible first | apply Wr.i64 | apply Wr.u64); focus omega) | ((with_reducible apply Need.mk); focus first | (simp only [lns, beN_len, beN_len]; omega) | exact CleanP.lst rfl (fun _ => rfl) | (unfold roomOK; simp only [lns, beN_len, beN_len]; omega)) | (apply CallN.mk (hv)) | (apply CallN.mk (b1)) | (apply CallN.mk (b2 _)) | (with_reducible apply Bif.T) | ((with_reducible apply Bif.dec) <;> intro h <;> (try simp only [lns, beN_len, beN_len] at h) <;> (try (exfalso; omega))) | (with_reducible apply Bif.not) | (with_reducible apply Same.rfl) | (apply Same.int; focus rfl) | ((with_reducible apply Same.mk); focus omega) | (with_reducible first | apply Alt.l | apply Cut.l | apply GiveN.lend) | (with_reducible apply Frz.l)) <;> conv => whnf) | fail)
theorem k_fEnc (s g a : Nat) (d : List UInt8) (t : Tg) (hg : g ≤ 65535) (ok : okF ⟨s, g, a, d⟩ = true) :
    Con Tryz.prog 94 [frgT t ⟨s, g, a, d⟩] [] (.tup [bys (encG s g a d), int 0]) [] :=
  (k_fEncO s g a d t hg ok).cl (.tup (.cons (.all rfl rfl) (.cons (.wk rfl .rfl) .nil))) rfl
end Go.Fw

/- TopReplays: the plain law of what was seen. -/
namespace Go.Fw
set_option maxRecDepth 4000
open Go.Proofs
theorem seen_iff {p : Pr} {c : Nat} : seenP p c = true ↔ c ≤ p.last ∧ (32 ≤ p.last - c ∨ p.win.testBit (p.last - c) = true) := by
  rw [seenP, decide_eq_true_iff, Nat.testBit_eq_decide_div_mod_eq, decide_eq_true_iff, Nat.shiftRight_eq_div_pow]
theorem seen_self (p : Pr) (c : Nat) : seenP (accM p c) c = true := by
  rw [seen_iff]
  unfold accM
  split
  · refine ⟨Nat.le_refl _, .inr ?_⟩
    rw [Nat.sub_self]
    simp [Nat.testBit_or]
  · refine ⟨by show c ≤ p.last; omega, .inr ?_⟩
    show (p.win ||| (1 <<< (p.last - c))).testBit (p.last - c) = true
    rw [Nat.testBit_or, Nat.one_shiftLeft, Nat.testBit_two_pow_self, Bool.or_true]
theorem seen_acc {p : Pr} {c d : Nat} (h : seenP p d = true) : seenP (accM p c) d = true := by
  rw [seen_iff] at h ⊢
  obtain ⟨h1, h2⟩ := h
  unfold accM
  split
  · rename_i hc
    refine ⟨by show d ≤ c; omega, ?_⟩
    show 32 ≤ c - d ∨ ((p.win * 2 ^ min (c - p.last) 32) % 4294967296 ||| 1).testBit (c - d) = true
    rcases Nat.lt_or_ge (c - d) 32 with g | g
    · refine .inr ?_
      have h3 : p.win.testBit (p.last - d) = true := by
        rcases h2 with h2 | h2
        · omega
        · exact h2
      rw [Nat.testBit_or, show (4294967296 : Nat) = 2 ^ 32 from rfl, Nat.testBit_mod_two_pow, Nat.min_eq_left (by omega), ← Nat.shiftLeft_eq, Nat.testBit_shiftLeft, show c - d - (c - p.last) = p.last - d by omega, h3]
      simp; omega
    · exact .inl g
  · refine ⟨h1, ?_⟩
    show 32 ≤ p.last - d ∨ (p.win ||| (1 <<< (p.last - c))).testBit (p.last - d) = true
    rcases h2 with h2 | h2
    · exact .inl h2
    · exact .inr (by rw [Nat.testBit_or, h2, Bool.true_or])
theorem or_odd {a b : Nat} (h : a % 2 = 1 ∨ b % 2 = 1) : (a ||| b) % 2 = 1 := by
  have e : (a ||| b).testBit 0 = true := by
    rw [Nat.testBit_or, Nat.testBit_zero, Nat.testBit_zero]
    rcases h with h | h <;> simp [h]
  rw [Nat.testBit_zero] at e
  simpa using e
theorem acc_ok {p : Pr} {c : Nat} (h : p.win % 2 = 1 ∧ p.win ≤ 4294967295 ∧ p.last ≤ 4294967295) (hc : c ≤ 4294967295) (hs : ¬ seenP p c = true) : (accM p c).win % 2 = 1 ∧ (accM p c).win ≤ 4294967295 ∧ (accM p c).last ≤ 4294967295 := by
  obtain ⟨h1, h2, h3⟩ := h
  unfold accM
  split
  · refine ⟨or_odd (.inr rfl), ?_, hc⟩
    have := Nat.or_lt_two_pow (n := 32) (Nat.mod_lt (p.win * 2 ^ min (c - p.last) 32) (by decide : 4294967296 > 0)) (by decide : 1 < 2 ^ 32)
    exact Nat.le_of_lt_succ this
  · rename_i hcl
    have hd : p.last - c < 32 := by
      rw [seen_iff] at hs
      rcases Nat.lt_or_ge (p.last - c) 32 with g | g
      · exact g
      · exact absurd ⟨by omega, .inl g⟩ hs
    refine ⟨or_odd (.inl h1), ?_, h3⟩
    have := Nat.or_lt_two_pow (n := 32) (x := p.win) (y := 1 <<< (p.last - c)) (by omega) (by rw [Nat.one_shiftLeft]; exact Nat.pow_lt_pow_right (by decide) hd)
    exact Nat.le_of_lt_succ this
end Go.Fw

/- Fragments as bytes: Decode. -/
namespace Go.Fw
open Go.Proofs
set_option maxHeartbeats 8000000
set_option maxRecDepth 8000
theorem mark_cut {s m : Nat} (hs : s ≤ 2047) (hm : m = 24 ∨ m = 28) : IntKind.wrap .u64 ((BitVec.ofInt (IntKind.bits .u64) ((m * 2048 + s : Nat) : Int) &&& ~~~ BitVec.ofInt (IntKind.bits .u64) 2047).toNat) = ((m * 2048 : Nat) : Int) := by
  generalize hv : m * 2048 + s = v
  have e1 : (BitVec.ofInt 64 (v : Int) &&& ~~~ BitVec.ofInt 64 2047).toNat = v / 2048 * 2048 := by
    have e2 : BitVec.ofInt 64 (v : Int) = BitVec.ofNat 64 v := by rw [BitVec.ofInt_natCast]
    rw [e2]
    have e3 : (BitVec.ofNat 64 v &&& ~~~ BitVec.ofInt 64 2047) = (BitVec.ofNat 64 v >>> 11) <<< 11 := by
      apply BitVec.eq_of_getLsbD_eq
      intro i hi
      rw [BitVec.getLsbD_and, BitVec.getLsbD_not, BitVec.getLsbD_shiftLeft, BitVec.getLsbD_ushiftRight]
      have hm : (BitVec.ofInt 64 2047).getLsbD i = decide (i < 11) := by
        have : ∀ j : Fin 64, (BitVec.ofInt 64 2047).getLsbD j.1 = decide (j.1 < 11) := by decide +kernel
        exact this ⟨i, hi⟩
      rw [hm]
      by_cases h16 : i < 11
      · simp [h16]
      · simp [h16, hi, show 11 + (i - 11) = i by omega]
    rw [e3, BitVec.toNat_shiftLeft, BitVec.toNat_ushiftRight, BitVec.toNat_ofNat, Nat.mod_eq_of_lt (by omega), Nat.shiftRight_eq_div_pow, Nat.shiftLeft_eq]
    rw [Nat.mod_eq_of_lt (by omega)]
  show IntKind.wrap .u64 (((BitVec.ofInt 64 (v : Int) &&& ~~~ BitVec.ofInt 64 2047).toNat : Nat) : Int) = _
  rw [e1]
  simp [IntKind.wrap, IntKind.bits, IntKind.signed]; omega
theorem mark_low {s m : Nat} (hs : s ≤ 2047) (hm : m = 24 ∨ m = 28) : IntKind.wrap .u64 ((BitVec.ofInt (IntKind.bits .u64) ((m * 2048 + s : Nat) : Int) &&& BitVec.ofInt (IntKind.bits .u64) 2047).toNat) = (s : Int) := by
  have e1 : (BitVec.ofInt 64 ((m * 2048 + s : Nat) : Int) &&& BitVec.ofInt 64 2047).toNat = s := by
    rw [BitVec.toNat_and, BitVec.ofInt_natCast, BitVec.toNat_ofNat, Nat.mod_eq_of_lt (by omega), show (BitVec.ofInt 64 2047).toNat = 2 ^ 11 - 1 by decide, Nat.and_two_pow_sub_one_eq_mod]
    omega
  show IntKind.wrap .u64 (((BitVec.ofInt 64 ((m * 2048 + s : Nat) : Int) &&& BitVec.ofInt 64 2047).toNat : Nat) : Int) = _
  rw [e1]
  simp [IntKind.wrap, IntKind.bits, IntKind.signed]; omega
theorem k_fDec0 (s g : Nat) (d C : List UInt8) (hC : C.length = 4 + d.length) (u0 : uintM C 0 2 = (49152 + s, true)) (u1 : uintM C 2 2 = (g, true)) (hd : C.drop 4 = d) (hg : g ≤ 65535) (ok : okF ⟨s, g, 0, d⟩ = true) :
    Con Tryz.prog 42 [bys C] [] (.tup [.agg [int (s : Int), .v (.int .u16 (g : Int)), int 0, .ov 1 0 0 d.length], int 0]) [.arr (some d.length) 1 (lst b8 d)] := by
  have h := okF_iff.1 ok
  dsimp only at h
  have hv := fun t => k_fValid ⟨s, g, 0, d⟩ t (by dsimp only; omega)
  rw [ok] at hv
  have c0 := k_Uint C 0 2 .no (by omega) (by decide) (by decide)
  have c1 := k_Uint C 2 2 .no (by omega) (by decide) (by decide)
  rw [u0] at c0
  rw [u1] at c1
  dsimp only at c0 c1
  have m0 : IntKind.wrap .u64 ((BitVec.ofInt (IntKind.bits .u64) ((49152 + s : Nat) : Int) &&& ~~~ BitVec.ofInt (IntKind.bits .u64) 2047).toNat) = 49152 := mark_cut (s := s) (m := 24) (by omega) (.inl rfl)
  have m1 : IntKind.wrap .i64 (IntKind.wrap .u64 ((BitVec.ofInt (IntKind.bits .u64) ((49152 + s : Nat) : Int) &&& BitVec.ofInt (IntKind.bits .u64) 2047).toNat)) = (s : Int) := by
    have := mark_low (s := s) (m := 24) (by omega) (.inl rfl)
    rw [show 24 * 2048 + s = 49152 + s by omega] at this
    rw [this, wrap64_id (by omega)]
  refine spec_of_run ttok mixed (T0 := 2305983927090680669) (ts := [.cell 2 120, .tmp 3]) 72 rfl rfl rfl rfl (by simp) rfl ?_
  conv => whnf
  repeat' (first | with_reducible apply True.intro | ((apply Wr.eq m1); (conv => whnf)) | ((apply Nm.mk ((nm_tail (n := 4) rfl).trans (by rw [hd]))); (conv => whnf)) | ((apply Same.mk); (focus (simp [lst]; done)); (conv => whnf)) | ((first | (with_reducible apply Nm.rep _ (rfl)) | ((with_reducible apply Nm.mk); focus ((try simp only [lns, beN_len]); exact rfl)) | ((with_reducible apply Wr.u16); focus omega) | ((with_reducible apply Need.mk); focus first | (simp only [lns, beN_len]; omega) | (unfold roomOK; simp only [lns, beN_len]; omega)) | (apply CallN.mk (c0)) | (apply CallN.mk (c1)) | (apply CallN.mk (hv _)) | (with_reducible apply Bif.T) | ((with_reducible first | apply Bif.dec | apply Bif.beq) <;> intro h <;> (try simp only [lns, beN_len] at h) <;> (try (exfalso; omega))) | (with_reducible apply Bif.not) | (apply Same.int; focus rfl) | (with_reducible apply Frz.l)) <;> conv => whnf) | fail)
theorem k_fDec1 (s g : Nat) (x : UInt8) (d C : List UInt8) (hC : C.length = 5 + d.length) (u0 : uintM C 0 2 = (57344 + s, true)) (u1 : uintM C 2 2 = (g, true)) (hd : C.drop 4 = x :: d) (hx : 1 ≤ x.toNat) (hg : g ≤ 65535) (ok : okF ⟨s, g, (x.toNat : Int) * 8, d⟩ = true) :
    Con Tryz.prog 42 [bys C] [] (.tup [.agg [int (s : Int), .v (.int .u16 (g : Int)), int ((x.toNat : Int) * 8), .ov 1 0 0 d.length], int 0]) [.arr (some d.length) 1 (lst b8 d)] := by
  have h := okF_iff.1 ok
  dsimp only at h
  have hv := fun t => k_fValid ⟨s, g, (x.toNat : Int) * 8, d⟩ t (by dsimp only; omega)
  rw [ok] at hv
  have c0 := k_Uint C 0 2 .no (by omega) (by decide) (by decide)
  have c1 := k_Uint C 2 2 .no (by omega) (by decide) (by decide)
  rw [u0] at c0
  rw [u1] at c1
  dsimp only at c0 c1
  have m0 : IntKind.wrap .u64 ((BitVec.ofInt (IntKind.bits .u64) ((57344 + s : Nat) : Int) &&& ~~~ BitVec.ofInt (IntKind.bits .u64) 2047).toNat) = 57344 := mark_cut (s := s) (m := 28) (by omega) (.inr rfl)
  have m1 : IntKind.wrap .i64 (IntKind.wrap .u64 ((BitVec.ofInt (IntKind.bits .u64) ((57344 + s : Nat) : Int) &&& BitVec.ofInt (IntKind.bits .u64) 2047).toNat)) = (s : Int) := by
    have := mark_low (s := s) (m := 28) (by omega) (.inr rfl)
    rw [show 28 * 2048 + s = 57344 + s by omega] at this
    rw [this, wrap64_id (by omega)]
  refine spec_of_run ttok mixed (T0 := 2305983927090680669) (ts := [.cell 2 120, .tmp 3]) 72 rfl rfl rfl rfl (by simp) rfl ?_
  conv => whnf
  repeat' (first | with_reducible apply True.intro | ((apply Wr.eq m1); (conv => whnf)) | ((apply Nm.mk ((nm_tail (n := 4) rfl).trans (by rw [hd]))); (conv => whnf)) | ((apply Nm.mk ((nm_tail (l := x :: d) (n := 1) rfl).trans rfl)); (conv => whnf)) | ((apply Elem.mk _ (show (lst b8 (x :: d))[0]? = some (b8 x) from rfl)); (conv => whnf)) | ((apply Same.mk); (focus (simp [lst]; done)); (conv => whnf)) | ((first | (with_reducible apply Nm.rep _ (rfl)) | ((with_reducible apply Nm.mk); focus ((try simp only [lns, beN_len]); exact rfl)) | ((with_reducible first | apply Wr.i64 | apply Wr.u16); focus omega) | ((with_reducible apply Need.mk); focus first | (simp only [lns, beN_len]; omega) | (unfold roomOK; simp only [lns, beN_len]; omega)) | (apply CallN.mk (c0)) | (apply CallN.mk (c1)) | (apply CallN.mk (hv _)) | (with_reducible first | apply Bif.T | apply Bif.F) | ((with_reducible first | apply Bif.dec | apply Bif.beq) <;> intro h <;> (try simp only [lns, beN_len] at h) <;> (try (exfalso; omega))) | (with_reducible apply Bif.not) | (apply Same.int; focus rfl) | (with_reducible apply Frz.l)) <;> conv => whnf) | fail)
end Go.Fw
