/- TopHop: plain law of the parts. -/
import Derived.Test.YtlkhjalnnciocaaGreatHpB

namespace Go.Fw
set_option maxRecDepth 4000
open Go.Proofs
set_option maxHeartbeats 4000000
theorem seen_new {p : Pr} {c d : Nat} (hl : p.last ≤ 31) (hc : c ≤ 31) (hdc : d ≠ c) (h : seenP (accM p c) d = true) : seenP p d = true := by
  rw [seen_iff] at h ⊢
  obtain ⟨h1, h2⟩ := h
  unfold accM at h1 h2
  split at h1
  · rename_i hg
    rw [if_pos hg] at h2
    dsimp only at h1 h2
    rcases h2 with h2 | h2
    · omega
    · rw [Nat.testBit_or, show (4294967296 : Nat) = 2 ^ 32 from rfl, Nat.testBit_mod_two_pow, Nat.min_eq_left (by omega), ← Nat.shiftLeft_eq, Nat.testBit_shiftLeft] at h2
      have h0 : (1 : Nat).testBit (c - d) = false := by
        rw [Nat.testBit_eq_decide_div_mod_eq, decide_eq_false_iff_not]
        have : 2 ≤ 2 ^ (c - d) := by
          have : 2 ^ 1 ≤ 2 ^ (c - d) := Nat.pow_le_pow_right (by decide) (by omega)
          simpa using this
        rw [Nat.div_eq_of_lt (by omega)]; decide
      rw [h0, Bool.or_false, Bool.and_eq_true, Bool.and_eq_true, decide_eq_true_eq, decide_eq_true_eq] at h2
      refine ⟨by omega, .inr ?_⟩
      rw [show p.last - d = c - d - (c - p.last) by omega]
      exact h2.2.2
  · rename_i hg
    rw [if_neg hg] at h2
    dsimp only at h1 h2
    refine ⟨h1, h2.imp id fun h2 => ?_⟩
    rw [Nat.testBit_or, Nat.one_shiftLeft, Nat.testBit_two_pow_of_ne (by omega), Bool.or_false] at h2
    exact h2
theorem acc_last {p : Pr} {c : Nat} (hl : p.last ≤ 31) (hc : c ≤ 31) : (accM p c).last ≤ 31 := by
  unfold accM; split <;> assumption
theorem spF_end {room : Nat} {tag : Int} {b : List UInt8} {a : Nat} (h : b.length ≤ a) : ∀ k, spF room tag b k a = []
  | 0 => rfl
  | k + 1 => by rw [spF, if_neg (by omega)]
theorem spF_80 {tag : Int} {b : List UInt8} : ∀ (k a : Nat), (spF 90 tag b k a).length ≤ (b.length - a) / 80 + 1 ∧ ∀ f ∈ spF 90 tag b k a, f.data.length ≤ 86
  | 0, a => by simp [spF]
  | k + 1, a => by
    rw [spF]
    by_cases hab : a < b.length
    · rw [if_pos hab]
      have ih := spF_80 (tag := tag) (b := b) k (a + cutN 90 a b.length)
      have hc : (cutN 90 a b.length = 80 ∧ 86 ≤ b.length - a) ∨ (cutN 90 a b.length = b.length - a ∧ cutN 90 a b.length ≤ 86) := by
        unfold cutN
        split <;> split <;> omega
      refine ⟨?_, fun f hf => ?_⟩
      · rw [List.length_cons]
        rcases hc with ⟨hc, _⟩ | ⟨hc, _⟩
        · have := ih.1; omega
        · rw [spF_end (by omega)]; simp
      · rcases List.mem_cons.1 hf with rfl | hf
        · dsimp only; rw [List.length_take]; omega
        · exact ih.2 f hf
    · rw [if_neg hab]; simp
/-- What was seen of a datagram, and what is kept of it. -/
structure Hst (D : Dat) (u : Int) (s : List Bool) (L : List Buf) (got : Nat) : Prop where
  len : s.length = D.f.length
  st : (s = List.replicate D.f.length false ∧ L = [] ∧ got = 0) ∨ (D.St s u ∧ L = [D.buf s u] ∧ got = 0) ∨ (s.all id = true ∧ L = [] ∧ got = 1)
namespace Hst
variable {D : Dat} {u now : Int} {s : List Bool} {L : List Buf} {got : Nat}
theorem siz (h : Hst D u s L got) : sizL L := by
  rcases h.st with ⟨_, h, _⟩ | ⟨g, h, _⟩ | ⟨_, h, _⟩
  · subst h; exact ⟨by simp, by simp⟩
  · subst h; exact D.siz1 g
  · subst h; exact ⟨by simp, by simp⟩
/-- One more part, the last one. -/
theorem full (h : Hst D u s L got) (hu : u = min (now + 12) 1099511627776) (hn : isTm now) (hk : u > now) {k : Nat} (hkl : k < D.f.length) (hs : s[k]? = some false) (ha : (s.set k true).all id = true) :
    addM L D.src D.dst (gt D.f k) now = ([], D.b, 0) ∧ got = 0 ∧ Hst D u (s.set k true) [] 1 := by
  have hlen : (s.set k true).length = D.f.length := by rw [List.length_set]; exact h.len
  rcases h.st with ⟨h1, h2, h3⟩ | ⟨g, h2, h3⟩ | ⟨h1, h2, h3⟩
  · subst h2
    refine ⟨?_, h3, hlen, .inr (.inr ⟨ha, rfl, rfl⟩)⟩
    rw [D.new0 hn hkl, if_pos (by unfold Dat.unit; rw [← h1]; exact ha)]
  · subst h2
    refine ⟨?_, h3, hlen, .inr (.inr ⟨ha, rfl, rfl⟩)⟩
    rw [D.hit1 g hk hn hkl, if_pos ha]
  · rw [not_all hs] at h1; cases h1
/-- One more part, not the last one. -/
theorem more (h : Hst D u s L got) (hu : u = min (now + 12) 1099511627776) (hn : isTm now) (hk : u > now) {k : Nat} (hkl : k < D.f.length) (hs : s[k]? = some false) (ha : (s.set k true).all id = false) :
    addM L D.src D.dst (gt D.f k) now = ([D.buf (s.set k true) u], [], 0) ∧ Hst D u (s.set k true) [D.buf (s.set k true) u] got := by
  have hlen : (s.set k true).length = D.f.length := by rw [List.length_set]; exact h.len
  rcases h.st with ⟨h1, h2, h3⟩ | ⟨g, h2, h3⟩ | ⟨h1, h2, h3⟩
  · subst h2 h3
    have ha' : (D.unit k).all id = false := by unfold Dat.unit; rw [← h1]; exact ha
    have e : s.set k true = D.unit k := by rw [h1]; rfl
    refine ⟨?_, hlen, .inr (.inl ⟨?_, rfl, rfl⟩)⟩
    · rw [D.new0 hn hkl, if_neg (by rw [ha']; simp), e, hu]
    · rw [e, hu]; exact Dat.St.unit D hkl hn ha'
  · subst h2
    refine ⟨?_, hlen, .inr (.inl ⟨Dat.St.set D g ha, rfl, h3⟩)⟩
    rw [D.hit1 g hk hn hkl, if_neg (by rw [ha]; simp)]
  · rw [not_all hs] at h1; cases h1
theorem init (hpos : 0 < D.f.length) : Hst D u (List.replicate D.f.length false) [] 0 := ⟨by simp, .inl ⟨rfl, rfl, rfl⟩⟩
/-- All were seen. -/
theorem done (h : Hst D u s L got) (ha : ∀ j, j < D.f.length → s[j]? = some true) : L = [] ∧ got = 1 := by
  have hall : s.all id = true := by
    rw [List.all_eq_true]
    intro x hx
    obtain ⟨j, hj, rfl⟩ := List.mem_iff_getElem.1 hx
    have := ha j (by rw [← h.len]; exact hj)
    rw [List.getElem?_eq_getElem hj] at this
    cases this' : s[j] with
    | true => rfl
    | false => rw [this'] at this; cases this
  rcases h.st with ⟨h1, h2, h3⟩ | ⟨g, h2, h3⟩ | ⟨h1, h2, h3⟩
  · have hp := D.pos
    have := ha 0 hp
    rw [h1, List.getElem?_replicate, if_pos hp] at this
    cases this
  · rw [g.not_] at hall; cases hall
  · exact ⟨h2, h3⟩
end Hst
structure HopI (D : Dat) (u : Int) (m : Nat) where
  i : Nat
  Y : Grd
  p : Pr
  s : List Bool
  L : List Buf
  got : Nat
  hi : i ≤ m + D.f.length
  vY : VG Y
  hp : Y.ps = [p]
  hl : p.last ≤ 31
  st : Hst D u s L got
  hs : ∀ k, k < D.f.length → (s[k]? = some true ↔ seenP p (k + 1) = true)
  hd : ∀ k, m + k < i → s[k]? = some true
theorem HopI.new {D : Dat} {u : Int} {m : Nat} (q : HopI D u m) {k : Nat} (hk : k < D.f.length) (h : ¬ seenP q.p (k + 1) = true) : q.s[k]? = some false := by
  have hks : k < q.s.length := by rw [q.st.len]; exact hk
  cases hb : q.s[k] with
  | false => rw [List.getElem?_eq_getElem hks, hb]
  | true => exact absurd ((q.hs k hk).1 (by rw [List.getElem?_eq_getElem hks, hb])) h
/-- The seen parts after one more. -/
theorem HopI.seen {D : Dat} {u : Int} {m : Nat} (q : HopI D u m) (h31 : D.f.length ≤ 31) {k : Nat} (hk : k < D.f.length) : ∀ j, j < D.f.length → ((q.s.set k true)[j]? = some true ↔ seenP (accM q.p (k + 1)) (j + 1) = true) := by
  intro j hj
  have hks : k < q.s.length := by rw [q.st.len]; exact hk
  rw [List.getElem?_set]
  by_cases e : k = j
  · subst e
    rw [if_pos rfl, if_pos hks]
    exact ⟨fun _ => seen_self _ _, fun _ => rfl⟩
  · rw [if_neg e]
    exact (q.hs j hj).trans ⟨fun h => seen_acc h, fun h => seen_new q.hl (by omega) (by omega) h⟩
theorem HopI.dn {D : Dat} {u : Int} {m : Nat} (q : HopI D u m) {k : Nat} (hk : k < D.f.length) (hm : m ≤ q.i → k = q.i - m) : ∀ j, m + j < q.i + 1 → (q.s.set k true)[j]? = some true := by
  intro j hj
  have hks : k < q.s.length := by rw [q.st.len]; exact hk
  rw [List.getElem?_set]
  by_cases e : k = j
  · subst e
    rw [if_pos rfl, if_pos hks]
  · rw [if_neg e]
    exact q.hd j (by have := hm; omega)
theorem HopI.dnS {D : Dat} {u : Int} {m : Nat} (q : HopI D u m) {k : Nat} (hk : k < D.f.length) (h : seenP q.p (k + 1) = true) (hm : m ≤ q.i → k = q.i - m) : ∀ j, m + j < q.i + 1 → q.s[j]? = some true := by
  intro j hj
  by_cases e : k = j
  · subst e
    exact (q.hs k hk).2 h
  · exact q.hd j (by have := hm; omega)
end Go.Fw

/- TopHop: the parts of a datagram, made and read. -/
namespace Go.Fw
open Go.Proofs
set_option maxHeartbeats 8000000
set_option maxRecDepth 8000
/-- A fragment as bytes. -/
def encD (f : Frg) : List UInt8 := encG f.size.toNat f.tag.toNat f.off.toNat f.data
theorem frg_nat {f : Frg} (ok : okF f = true) (ht : 0 ≤ f.tag) : f = ⟨(f.size.toNat : Int), (f.tag.toNat : Int), (f.off.toNat : Int), f.data⟩ := by
  have h := okF_iff.1 ok
  obtain ⟨s, g, o, d⟩ := f
  dsimp only at h ht ⊢
  rw [Int.toNat_of_nonneg (by omega), Int.toNat_of_nonneg (by omega), Int.toNat_of_nonneg (by omega)]
theorem k_fEncD (f : Frg) (t : Tg) (ok : okF f = true) (ht : 0 ≤ f.tag ∧ f.tag ≤ 65535) : Con Tryz.prog 94 [frgT t f] [] (.tup [bys (encD f), int 0]) [] := by
  have e := frg_nat ok ht.1
  have c := k_fEnc f.size.toNat f.tag.toNat f.off.toNat f.data t (by omega) (by rw [← e]; exact ok)
  rw [← e] at c
  exact c
theorem k_fDecD (f : Frg) (ok : okF f = true) (ht : 0 ≤ f.tag ∧ f.tag ≤ 65535) : Con Tryz.prog 42 [bys (encD f)] [] (.tup [frgV f, int 0]) [] := by
  have e := frg_nat ok ht.1
  have h := okF_iff.1 ok
  have hl := encG_len f.size.toNat f.tag.toNat f.off.toNat f.data
  have hs : f.size.toNat ≤ 2047 := by omega
  have hg : f.tag.toNat ≤ 65535 := by omega
  have ha : f.off.toNat % 8 = 0 ∧ f.off.toNat ≤ 2047 := by
    have := h.2.2.2.1
    rw [Int.tmod_eq_emod_of_nonneg (by omega)] at this
    omega
  have hd : 1 ≤ f.data.length ∧ f.data.length ≤ 2047 := by omega
  rw [e] at ok
  rw [e]
  unfold encD
  dsimp only [Int.toNat_natCast]
  generalize f.size.toNat = s at *
  generalize f.tag.toNat = g at *
  generalize f.off.toNat = a at *
  generalize f.data = d at *
  by_cases h0 : 0 < a
  · rw [if_pos h0] at hl
    have hE : encG s g a d = beN 2 (57344 + s) ++ (beN 2 g ++ (beN 1 (a / 8) ++ d)) := by unfold encG mrk offB; rw [if_pos h0, if_pos h0]; simp
    rw [hE] at hl ⊢
    obtain ⟨x, hx⟩ : ∃ x : UInt8, x = UInt8.ofNat (a / 8) := ⟨_, rfl⟩
    have hxn : x.toNat = a / 8 := by rw [hx, UInt8.toNat_ofNat']; omega
    have e1 : beN 1 (a / 8) = [x] := by rw [hx]; simp [beN]
    have ea : (a : Int) = (x.toNat : Int) * 8 := by omega
    rw [ea] at ok ⊢
    rw [e1] at hl ⊢
    refine Con.cl (k_fDec1 s g x d _ (by rw [hl]) ?_ ?_ ?_ (by omega) hg ok) (.tup (.cons (.aggC (.wk rfl .rfl) (.aggC (.wk rfl .rfl) (.aggC (.wk rfl .rfl) (.aggC (.all rfl rfl) .aggN)))) (.cons (.wk rfl .rfl) .nil))) rfl
    · rw [uintM, if_pos ⟨by decide, by decide, by decide, by rw [hl]; omega⟩]
      show (beV (List.take 2 (List.drop 0 _)), true) = _
      rw [List.drop_zero, List.take_left' (beN_len 2 _), beV_beN 2 _ (by omega)]
    · rw [uintM, if_pos ⟨by decide, by decide, by decide, by rw [hl]; omega⟩]
      show (beV (List.take 2 (List.drop 2 _)), true) = _
      rw [List.drop_left' (beN_len 2 _), List.take_left' (beN_len 2 _), beV_beN 2 _ (by omega)]
    · rw [show (4 : Nat) = 2 + 2 from rfl, ← List.drop_drop, List.drop_left' (beN_len 2 _), List.drop_left' (beN_len 2 _)]; rfl
  · rw [if_neg h0] at hl
    have hE : encG s g a d = beN 2 (49152 + s) ++ (beN 2 g ++ d) := by unfold encG mrk offB; rw [if_neg h0, if_neg h0]; simp
    rw [hE] at hl ⊢
    obtain rfl : a = 0 := by omega
    refine Con.cl (k_fDec0 s g d _ (by rw [hl]) ?_ ?_ ?_ hg ok) (.tup (.cons (.aggC (.wk rfl .rfl) (.aggC (.wk rfl .rfl) (.aggC (.wk rfl .rfl) (.aggC (.all rfl rfl) .aggN)))) (.cons (.wk rfl .rfl) .nil))) rfl
    · rw [uintM, if_pos ⟨by decide, by decide, by decide, by rw [hl]; omega⟩]
      show (beV (List.take 2 (List.drop 0 _)), true) = _
      rw [List.drop_zero, List.take_left' (beN_len 2 _), beV_beN 2 _ (by omega)]
    · rw [uintM, if_pos ⟨by decide, by decide, by decide, by rw [hl]; omega⟩]
      show (beV (List.take 2 (List.drop 2 _)), true) = _
      rw [List.drop_left' (beN_len 2 _), List.take_left' (beN_len 2 _), beV_beN 2 _ (by omega)]
    · rw [show (4 : Nat) = 2 + 2 from rfl, ← List.drop_drop, List.drop_left' (beN_len 2 _), List.drop_left' (beN_len 2 _)]
theorem encD_len (f : Frg) : (encD f).length ≤ 5 + f.data.length := by
  unfold encD
  rw [encG_len]; split <;> omega
theorem k_fSplit (b : List UInt8) (tag : Int) (hb : 1 ≤ b.length ∧ b.length ≤ 2047) :
    Con Tryz.prog 93 [bys b, .v (.int .u16 tag), int 90] [] (.tup [.fs .no 4 (lst frgV (spF 90 tag b b.length 0)), int 0]) [] :=
  (k_Split0 b tag 90 .no hb (by decide)).cl (.tup (.cons (.ov rfl (by simp [lst]) (by rw [List.drop_zero]; exact List.take_of_length_le (by simp [lst])) (wk_frgs _ _)) (.cons (.wk rfl .rfl) .nil))) rfl
theorem k_parts (b : List UInt8) (tag : Int) (ht : 0 ≤ tag ∧ tag ≤ 65535) (hb : 1 ≤ b.length ∧ b.length ≤ 2047) :
    Con Tryz.prog 41 [bys b, .v (.int .u16 tag)] [] (.tup [.fs .no 1 (lst bys ((spF 90 tag b b.length 0).map encD)), bool true]) [] := by
  have cS := k_fSplit b tag hb
  have ch := spF_chn (room := 90) (tag := tag) (b := b) hb (by decide) b.length 0 (by omega) (by omega) (.inl rfl)
  have hlen := spF_len (room := 90) (tag := tag) (b := b) (by decide) b.length 0
  generalize spF 90 tag b b.length 0 = l at *
  have hne : 0 < l.length := by
    cases l with
    | nil => have h : 0 = b.length := ch; omega
    | cons => simp
  have hml : (l.map encD).length = l.length := List.length_map _
  refine Con.cl (r := .tup [.ov 1 0 0 (l.map encD).length, bool true]) (hp' := [.arr none 1 (lst bys (l.map encD))]) ?_ (.tup (.cons (.all rfl rfl) (.cons (.wk rfl .rfl) .nil))) rfl
  have hp := chn_parts ch
  refine spec_of_run ttok mixed (T0 := 8592035827) (ts := [.tmp 4, .tmp 5]) 46 rfl rfl rfl rfl (by simp) rfl ?_
  conv => whnf
  repeat' (first | ((first | (apply CallN.mk (cS)) | (with_reducible apply Frz.l)) <;> conv => whnf) | fail)
  refine LoopN.adopt 8 1 rfl (by simp) ?_
  refine loop_keep ttok mixed (T0 := 8592035827) [6, 7] (ι := {k : Nat // k ≤ l.length})
    (fun k => [(8, .ov 1 0 0 k.1), (9, int (k.1 : Int))]) (fun k => [.arr none 1 (lst bys ((l.map encD).take k.1))]) (fun k => l.length - k.1) ⟨0, by omega⟩ ?_
  conv => whnf
  repeat' (first | ((apply Same.mk rfl); (conv => whnf)) | ((with_reducible apply Frz.l) <;> conv => whnf) | fail)
  rintro ⟨k, hk⟩
  dsimp only
  conv => whnf
  by_cases hkn : k < l.length
  · have ok := hp.ok hkn
    have hf := (hp.all _ (gt_mem hkn)).2.2.1
    have cE := k_fEncD (gt l k) .no ok (by rw [hf]; exact ht)
    have es : (l.map encD).take (k + 1) = (l.map encD).take k ++ [encD (gt l k)] := by
      rw [take_gt (by omega), gt_map hkn]
    repeat' (first | ((first | (with_reducible apply Nm.snoc _ (rfl)) | ((with_reducible apply Nm.mk); focus ((try simp only [lns, beN_len]); exact rfl)) | ((with_reducible apply Wr.i64); focus omega) | ((with_reducible apply Need.mk); focus first | (simp only [lns, beN_len]; omega) | (unfold roomOK; simp only [lns, beN_len]; omega)) | ((with_reducible apply Elem.lst); focus omega) | (apply CallN.mk (cE)) | ((with_reducible first | apply Bif.dec | apply Bif.bne) <;> intro h <;> (try simp only [lns, beN_len] at h) <;> (try (exfalso; omega))) | (with_reducible apply Alt.l) | (with_reducible apply Frz.l)) <;> conv => whnf) | fail)
    (refine ⟨⟨k + 1, by omega⟩, ?_⟩; (try dsimp only); conv => whnf); repeat' (first | with_reducible apply True.intro | ((apply Same.mk (by rw [es, ← lst_snoc])); (conv => whnf)) | ((apply Same.mk rfl); (conv => whnf)) | ((first | ((with_reducible apply Need.mk); focus omega) | (apply Same.ov; (focus rfl); focus omega) | (with_reducible apply Turn.l) | (with_reducible apply Frz.l)) <;> conv => whnf) | fail)
  · obtain rfl : k = l.length := by omega
    repeat' (first | with_reducible apply True.intro | ((apply Same.bool (decide_eq_true (by omega))); (conv => whnf)) | ((apply Same.mk (by rw [List.take_of_length_le (by omega)])); (conv => whnf)) | ((first | ((with_reducible apply Nm.mk); focus ((try simp only [lns, beN_len]); exact rfl)) | (with_reducible apply Bif.T) | ((with_reducible first | apply Bif.dec | apply Bif.beq) <;> intro h <;> (try simp only [lns, beN_len] at h) <;> (try (exfalso; omega))) | (with_reducible apply Same.rfl) | ((with_reducible apply Same.mk); focus omega) | (with_reducible apply Cut.l) | (with_reducible apply Frz.l)) <;> conv => whnf) | fail)
end Go.Fw
