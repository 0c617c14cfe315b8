/- An array that is given where a shared slice would do; made fragments; cut, known. -/
import Derived.Test.YteebplkhnhpiiaaRasT
namespace Go.Fw
open Go.Proofs
set_option maxHeartbeats 8000000
set_option maxRecDepth 4000
theorem RelVL.up0 {cx : Cx} {w : World} : ∀ {l : List SV} {vs : List Value}, (∀ s ∈ l, Fw.below 0 s = true ∧ ∀ t, s ≠ .tup t) → RelVL cx w l vs → RelVL (cx.upto 0) w l vs
  | [], _, _, h => by cases h; exact .nil
  | s :: r, _, hb, h => by
    cases h with
    | cons h1 h2 =>
      obtain ⟨b1, b2⟩ := hb s (by simp)
      exact .cons ((relV_of1 b2).1 (((relV_of1 b2).2 h1).upto b1)) (RelVL.up0 (fun s hs => hb s (by simp [hs])) h2)
theorem RelVL.minus {cx : Cx} {w : World} {ks : List Nat} : ∀ {l : List SV} {vs : List Value}, (∀ s ∈ l, ∀ t, s ≠ .tup t) → RelVL cx w l vs → RelVL (cx.minus ks) w l vs
  | [], _, _, h => by cases h; exact .nil
  | s :: r, _, hb, h => by
    cases h with
    | cons h1 h2 =>
      have b2 := hb s (by simp)
      exact .cons ((relV_of1 b2).1 (((relV_of1 b2).2 h1).mono (ext_minus cx w ks))) (RelVL.minus (fun s hs => hb s (by simp [hs])) h2)
theorem Con.own {P : Program} {f : FuncId} {x : Option Nat} {E : Nat} {rows : List SV} {args : List SV} {r : SV} {hp' : List OB} (h : Con P f (.fs .no E rows :: args) [] r hp') (ha : ∀ s ∈ args, Fw.below 0 s = true ∧ ∀ t, s ≠ .tup t) :
    Con P f (.ov E 0 0 rows.length :: args) [.arr x E rows] r hp' := by
  intro cx w vals hgl hm hv
  cases hv with
  | cons h1 h2 =>
    have fz : FzR [.arr x E rows] 0 (.ov E 0 0 rows.length) (.fs ⟨x.map (· - 0), false⟩ E rows) := .fz (Nat.le_refl 0) rfl (by omega) (by simp)
    have hkk : ∀ k, 0 ≤ k → k < [OB.arr x E rows].length → k ∈ [0] := fun k _ hk => by
      rw [List.length_singleton] at hk
      rw [show k = 0 by omega]; exact List.mem_singleton.2 rfl
    have r1 := Wk.tag.rel1 (fz.rel1 hkk hm h1)
    have r2 := RelVL.minus (ks := [0]) (fun s hs => (ha s hs).2) h2
    have hm2 := mem_minus hm (ks := [0]) fun k hk => by
      rw [List.mem_singleton.1 hk]; exact ⟨x, E, rows, rfl⟩
    have e0 : updHp (nthB [OB.arr x E rows]) (goneL [0]) = nthB [OB.gone] := by
      funext k
      rw [goneL_get]
      cases k with
      | zero => rfl
      | succ k => simp [nthB]
    rw [e0] at hm2
    have hm3 := mem_upto (m := 0) hm2 (fun ob ho => by simp at ho)
    have hargs : RelVL ((cx.minus [0]).upto 0) w (.fs .no E rows :: args) _ := RelVL.up0 (fun s hs => by
      rcases List.mem_cons.1 hs with rfl | hs
      · exact ⟨rfl, fun t e => by cases e⟩
      · exact ha s hs) (.cons r1 r2)
    refine (h ((cx.minus [0]).upto 0) w _ (fun g s hg => let ⟨g1, g2, g3, g4⟩ := hgl g s hg; ⟨g1, fun h => g2 h.1, fun k C hc => by simp [Cx.upto] at hc, g4⟩) hm3 hargs).mono fun e w' ⟨cx1, v, g1, g2, g3, g4⟩ => ⟨cx1, v, g1, g2, g3, ?_⟩
    refine ⟨g4.le, fun b hb hn => g4.same b hb (fun k C hc => ?_), fun b hb => ?_, fun b hb hO => ?_, fun k b C hc => ?_, fun k ⟨s, hk⟩ => ?_, g4.wk⟩
    · simp [Cx.upto] at hc
    · rcases g4.own b hb with g | g
      · exact .inl g.1
      · exact .inr g
    · by_cases hb0 : ∃ C, cx.bl 0 = some (.at b C)
      · obtain ⟨C, hC⟩ := hb0
        exact .inr ⟨0, C, fun ⟨s, hs⟩ => by simp [nthB] at hs, hC⟩
      · have hO2 : ((cx.minus [0]).upto 0).O b := ⟨hO, fun k hk C hc => hb0 ⟨C, by rw [List.mem_singleton.1 hk] at hc; exact hc⟩⟩
        rcases g4.old b hb hO2 with g | ⟨k, C, _, g⟩
        · exact .inl g
        · simp [Cx.upto] at g
    · rcases g4.blk k b C hc with ⟨k', _, g⟩ | g
      · simp [Cx.upto] at g
      · exact .inr g
    · cases k with
      | zero => simp [nthB] at hk
      | succ k => simp [nthB] at hk
theorem k_device (n : Int) (hn : 0 ≤ n ∧ n ≤ 65535) : Con Try.prog 19 [int n] [] (adrV ⟨2, n, 0⟩) [] := by
  refine spec_of_run ttok mixed (T0 := 5) (ts := [.cell 2 28]) 6 rfl rfl rfl rfl (by simp) rfl ?_
  conv => whnf
  repeat' (first | with_reducible apply True.intro | ((apply Same.mk rfl); (conv => whnf)) | ((first | ((with_reducible apply Wr.u16); focus omega) | (with_reducible apply Frz.l)) <;> conv => whnf) | fail)
theorem k_cut0 (b : List UInt8) (tag : Int) (t : Tg) (hb : 1 ≤ b.length ∧ b.length ≤ 2047) : Con Try.prog 26 [.fs t 1 (lst b8 b), .v (.int .u16 tag)] [] (.ov 4 0 0 (spF 13 tag b b.length 0).length) [.arr none 4 (lst frgV (spF 13 tag b b.length 0))] := by
  have cS := k_rSplit b tag 13 t hb (by omega)
  refine spec_of_run ttok mixed (T0 := 51) (ts := [.tmp 4]) 14 rfl rfl rfl rfl (by simp) rfl ?_
  conv => whnf
  repeat' (first | with_reducible apply True.intro | ((first | (apply CallN.mk (cS)) | (with_reducible apply Same.rfl) | (with_reducible apply Cut.l) | (with_reducible apply Frz.l)) <;> conv => whnf) | fail)
theorem Con.fin1 {P : Program} {f : FuncId} {args : List SV} {α : Type} {g : α → SV} {l : List α} {E : Nat} (h : Con P f args [] (.ov E 0 0 l.length) [.arr none E (lst g l)]) : Con P f args [] (.fs .no E (lst g l)) [] := by
  refine h.fz 0 (Nat.le_refl _) (.one (.whole (Nat.le_refl 0) rfl) (fun l h => by cases h)) rfl ?_ rfl rfl
  intro k ob _ h2
  match k, h2 with
  | 0, h2 => cases h2; exact ⟨_, _, _, rfl⟩
abbrev cutB (b : List UInt8) (tag : Int) : List Frg := spF 13 tag b b.length 0
theorem k_cut (b : List UInt8) (tag : Int) (t : Tg) (hb : 1 ≤ b.length ∧ b.length ≤ 2047) : Con Try.prog 26 [.fs t 1 (lst b8 b), .v (.int .u16 tag)] [] (.fs .no 4 (lst frgV (cutB b tag))) [] := (k_cut0 b tag t hb).fin1
theorem k_cutO (b : List UInt8) (tag : Int) (x : Option Nat) (hb : 1 ≤ b.length ∧ b.length ≤ 2047) : Con Try.prog 26 [.ov 1 0 0 b.length, .v (.int .u16 tag)] [.arr x 1 (lst b8 b)] (.fs .no 4 (lst frgV (cutB b tag))) [] := by
  have := (k_cut b tag .no hb).own (x := x) (fun s hs => by rw [List.mem_singleton.1 hs]; exact ⟨rfl, fun t e => by cases e⟩)
  rwa [show (lst b8 b).length = b.length by simp [lst]] at this
def tenB : List UInt8 := [1, 2, 3, 4, 5, 6, 7, 8, 9, 10]
theorem k_cutTen : Con Try.prog 26 [.ov 1 0 0 10, .v (.int .u16 7)] [.arr (some 10) 1 [.v (.int .u8 1), .v (.int .u8 2), .v (.int .u8 3), .v (.int .u8 4), .v (.int .u8 5), .v (.int .u8 6), .v (.int .u8 7), .v (.int .u8 8), .v (.int .u8 9), .v (.int .u8 10)]] (.fs .no 4 (lst frgV (cutB tenB 7))) [] :=
  k_cutO tenB 7 (some 10) (by decide)
abbrev dev (n : Int) : Adr := ⟨2, n, 0⟩
theorem ten_len : (cutB tenB 7).length = 2 := by decide +kernel
theorem ten_data : ∀ f ∈ cutB tenB 7, f.data.length ≤ 2047 := by decide +kernel
def tenL : List Buf := (addM [] (dev 1) (dev 2) (gt (cutB tenB 7) 1) 0).1
theorem ten_1 : (addM [] (dev 1) (dev 2) (gt (cutB tenB 7) 1) 0).1.length = 1 ∧ (addM [] (dev 1) (dev 2) (gt (cutB tenB 7) 1) 0).2.1.length = 0 ∧ (addM [] (dev 1) (dev 2) (gt (cutB tenB 7) 1) 0).2.2 = 0 := by decide +kernel
theorem ten_2 : (addM (addM [] (dev 1) (dev 2) (gt (cutB tenB 7) 1) 0).1 (dev 1) (dev 2) (gt (cutB tenB 7) 0) 5).1.length = 0 ∧ (addM (addM [] (dev 1) (dev 2) (gt (cutB tenB 7) 1) 0).1 (dev 1) (dev 2) (gt (cutB tenB 7) 0) 5).2.1.length = 10 ∧ (addM (addM [] (dev 1) (dev 2) (gt (cutB tenB 7) 1) 0).1 (dev 1) (dev 2) (gt (cutB tenB 7) 0) 5).2.2 = 0 := by decide +kernel
theorem siz_nil : sizL [] := ⟨by simp, fun b hb => by cases hb⟩
theorem k_known : Con Try.prog 16 [] [] (bool true) [] := by
  have hl := ten_len
  have h1 := ten_1
  have h2 := ten_2
  have hd := fun i hi => ten_data _ (gt_mem (l := cutB tenB 7) (i := i) hi)
  have d1 := hd 1 (by omega)
  have d0 := hd 0 (by omega)
  have cT := k_cutTen
  have hs1 := addM_siz siz_nil (dev 1) (dev 2) (gt (cutB tenB 7) 1) (by omega) 0
  have c1 := k_xAdd [] .no siz_nil (dev 1) (dev 2) (gt (cutB tenB 7) 1) (by omega) 0
  have c2 := k_xAdd (addM [] (dev 1) (dev 2) (gt (cutB tenB 7) 1) 0).1 .no hs1 (dev 1) (dev 2) (gt (cutB tenB 7) 0) (by omega) 5
  have e1 := k_device 1 (by omega)
  have e2 := k_device 2 (by omega)
  generalize addM (addM [] (dev 1) (dev 2) (gt (cutB tenB 7) 1) 0).1 (dev 1) (dev 2) (gt (cutB tenB 7) 0) 5 = R2 at *
  generalize addM [] (dev 1) (dev 2) (gt (cutB tenB 7) 1) 0 = R1 at *
  generalize cutB tenB 7 = F at *
  refine spec_of_run ttok mixed (T0 := 255) (ts := [.tmp 0]) 57 rfl rfl rfl rfl (by simp) rfl ?_
  conv => whnf
  repeat' (first | with_reducible apply True.intro | ((with_reducible apply GiveN.mk [0]); (conv => whnf); (apply CallN.mk cT); (conv => whnf)) | ((apply Same.bool (by rw [h2.2.1]; rfl)); (conv => whnf)) | ((first | ((with_reducible apply Nm.mk); focus ((try simp only [lns]); exact rfl)) | ((with_reducible apply Need.mk); focus first | (simp only [lns]; omega) | kernel_rfl) | ((with_reducible apply Elem.lst); focus omega) | (apply CallN.le (c1); focus ((repeat' (first | (with_reducible apply ArgLe.nil) | (exact ArgLe.nil) | (exact ArgLe.rfl) | (exact ArgLe.fs) | (exact True.intro) | (apply And.intro) | fail)); done)) | (apply CallN.mk (c2)) | (apply CallN.mk (e1)) | (apply CallN.mk (e2)) | (with_reducible apply Bif.T) | ((with_reducible apply Bif.beq) <;> intro h <;> (try simp only [lns] at h) <;> (try (exfalso; omega))) | (with_reducible apply Frz.l)) <;> conv => whnf) | fail)
/-- Made fragments. -/
def FrOK (L : List Frg) : Prop := L.length ≤ 60 ∧ ∀ f ∈ L, okF f = true
theorem FrOK.len {L : List Frg} (h : FrOK L) {f : Frg} (hf : f ∈ L) : 1 ≤ f.data.length ∧ f.data.length ≤ 2047 := by
  have := okF_iff.1 (h.2 f hf)
  omega
theorem k_Fragments0 (l : List Int) (k : Int) (hk : 0 ≤ k) (hl : l.length ≤ 400) :
    ∃ r hp', (∃ (L : List Frg) (k' : Int), r = .ov 4 1 0 L.length ∧ hp' = [.cells (tape l k'), .arr none 4 (lst frgV L)] ∧ (1 ≤ L.length ∧ FrOK L) ∧ 0 ≤ k') ∧ Con Try.prog 11 [.pb 0 []] [.cells (tape l k)] r hp' := by
  refine spec_of_runR ttok mixed (T0 := 29) (ts := [.tmp 2]) 23 rfl rfl rfl rfl (by simp) rfl ?_
  conv => whnf
  repeat' (first | ((first | ((with_reducible apply Wr.i64); focus omega) | (refine CallN.ex (k_tape_Next l _ 60 (by omega) hl (by omega)) ?_; rintro _ _ ⟨x, k1, rfl, rfl, a1, a2, a3⟩) | (with_reducible apply Frz.l)) <;> conv => whnf) | fail)
  obtain ⟨n, hn⟩ : ∃ n : Nat, 1 + x = n := ⟨(1 + x).toNat, by omega⟩
  rw [hn]
  repeat' (first | ((first | ((with_reducible first | apply Wr.i64 | apply Wr.u16); focus omega) | (refine CallN.ex (k_Fill l k1 n a3 hl (by omega)) ?_; rintro _ _ ⟨b, k2, rfl, rfl, b1, b2⟩) | (refine CallN.ex (k_tape_Next l _ 3 (by omega) hl (by omega)) ?_; rintro _ _ ⟨g, k3, rfl, rfl, c1, c2, c3⟩) | (refine CallN.ex (k_tape_Next l _ 20 (by omega) hl (by omega)) ?_; rintro _ _ ⟨y, k4, rfl, rfl, d1, d2, d3⟩) | (with_reducible apply Frz.l)) <;> conv => whnf) | fail)
  obtain ⟨rm, hrm⟩ : ∃ m : Nat, 13 + y = m := ⟨(13 + y).toNat, by omega⟩
  have cS := k_rSplit b g rm .no (by omega) (by omega)
  have hch := spF_chn (room := rm) (tag := g) (b := b) (by omega) (by omega) b.length 0 (by omega) (by omega) (by omega)
  have hok := chn_ok hch
  have hln := spF_len (room := rm) (tag := g) (b := b) (by omega) b.length 0
  have h1 : 1 ≤ (spF rm g b b.length 0).length := by
    cases he : spF rm g b b.length 0 with
    | nil => rw [he] at hch; have : 0 = b.length := hch; omega
    | cons f r => simp
  rw [hrm]
  generalize spF rm g b b.length 0 = L at *
  repeat' (first | ((first | (apply CallN.mk (cS)) | (with_reducible apply Frz.l)) <;> conv => whnf) | fail)
  (refine ⟨_, _, ⟨L, k4, rfl, rfl, ⟨h1, by omega, hok⟩, d3⟩, ?_⟩; conv => whnf); repeat' (first | with_reducible apply True.intro | ((first | (with_reducible apply Same.rfl) | (with_reducible apply Cut.l) | (with_reducible apply Frz.l)) <;> conv => whnf) | fail)
theorem k_Fragments (l : List Int) (k : Int) (hk : 0 ≤ k) (hl : l.length ≤ 400) :
    ∃ r hp', (∃ (L : List Frg) (k' : Int), r = .fs .no 4 (lst frgV L) ∧ hp' = [.cells (tape l k')] ∧ (1 ≤ L.length ∧ FrOK L) ∧ 0 ≤ k') ∧ Con Try.prog 11 [.pb 0 []] [.cells (tape l k)] r hp' := by
  obtain ⟨r, hp', ⟨L, k', rfl, rfl, hL, hk'⟩, hc⟩ := k_Fragments0 l k hk hl
  refine ⟨_, _, ⟨L, k', rfl, rfl, hL, hk'⟩, hc.fz 1 (Nat.le_refl _) (.one (.whole (Nat.le_refl 1) rfl) (fun l h => by cases h)) rfl ?_ rfl rfl⟩
  intro k ob h1 h2
  match k, h1, h2 with
  | 1, _, h2 => cases h2; exact ⟨_, _, _, rfl⟩
structure MixI (L : List Frg) where
  i : Int
  a : Int
  o : List Frg
  hi : 0 ≤ i
  hs : (o.length : Int) + i ≤ 120
  ha : 0 ≤ a
  ho : ∀ f ∈ o, f ∈ L
theorem k_Mixed0 (l : List Int) (k : Int) (L : List Frg) (t : Tg) (hk : 0 ≤ k) (hl : l.length ≤ 400) (hL : 1 ≤ L.length ∧ L.length ≤ 60) :
    ∃ r hp', (∃ (M : List Frg) (k' : Int), r = .ov 4 1 0 M.length ∧ hp' = [.cells (tape l k'), .arr none 4 (lst frgV M)] ∧ (M.length ≤ 120 ∧ ∀ f ∈ M, f ∈ L) ∧ 0 ≤ k') ∧ Con Try.prog 28 [.pb 0 [], .fs t 4 (lst frgV L)] [.cells (tape l k)] r hp' := by
  refine spec_of_runR ttok mixed (T0 := 524403) (ts := [.tmp 4]) 33 rfl rfl rfl rfl (by simp) rfl ?_
  conv => whnf
  repeat' (first | ((first | ((with_reducible apply Nm.mk); focus ((try simp only [lns]); exact rfl)) | ((with_reducible apply Wr.i64); focus omega) | (refine CallN.ex (k_tape_Next l _ (2 * (L.length : Int) + 1) (by omega) hl (by omega)) ?_; rintro _ _ ⟨x, k1, rfl, rfl, a1, a2, a3⟩) | (with_reducible apply Frz.l)) <;> conv => whnf) | fail)
  refine LoopN.adopt 5 4 rfl (by simp) ?_
  refine loop_keep ttok mixed (T0 := 524403) [1] (ι := MixI L)
    (fun p => [(0, .pb 0 []), (5, .ov 4 1 0 p.o.length), (6, int p.i)]) (fun p => [.cells (tape l p.a), .arr none 4 (lst frgV p.o)]) (fun p => p.i.toNat) ⟨x, k1, [], a1, by simp; omega, a3, by simp⟩ ?_
  conv => whnf
  repeat' (first | ((apply Same.mk rfl); (conv => whnf)) | ((with_reducible apply Frz.l) <;> conv => whnf) | fail)
  rintro ⟨i, a, o, hi, hs, ha, ho⟩
  dsimp only
  conv => whnf
  by_cases hi0 : 0 < i
  · repeat' (first | ((first | ((with_reducible apply Nm.mk); focus ((try simp only [lns]); exact rfl)) | ((with_reducible apply Wr.i64); focus omega) | ((with_reducible apply Need.mk); focus first | (simp only [lns]; omega) | (unfold roomOK; simp only [lns]; omega)) | ((with_reducible apply Elem.lst); focus omega) | (refine CallN.ex (k_tape_Next l _ (L.length : Int) (by omega) hl (by omega)) ?_; rintro _ _ ⟨y, k2, rfl, rfl, b1, b2, b3⟩) | (with_reducible apply Bif.T) | ((with_reducible apply Bif.dec) <;> intro h <;> (try simp only [lns] at h) <;> (try (exfalso; omega))) | (with_reducible apply Alt.l) | (with_reducible apply Frz.l)) <;> conv => whnf) | fail)
    have hy : y.toNat < L.length := by omega
    (refine ⟨⟨i - 1, k2, o ++ [gt L y.toNat], by omega, by rw [List.length_append, List.length_singleton]; omega, b3, fun f hf => by
      rcases List.mem_append.1 hf with h | h
      · exact ho f h
      · rw [List.mem_singleton.1 h]; exact gt_mem hy⟩, ?_⟩; (try dsimp only); conv => whnf); repeat' (first | with_reducible apply True.intro | ((apply Same.mk (by simp [lst]; rfl)); (conv => whnf)) | ((first | ((with_reducible apply Need.mk); focus omega) | (with_reducible apply Same.rfl) | (apply Same.int; focus rfl) | (apply Same.ov; (focus rfl); focus (simp only [lns]; first | done | omega)) | (with_reducible apply Turn.l) | (with_reducible apply Frz.l)) <;> conv => whnf) | fail)
  · repeat' (first | ((first | (with_reducible apply Bif.F) | ((with_reducible apply Bif.dec) <;> intro h <;> (try simp only [lns] at h) <;> (try (exfalso; omega))) | (with_reducible apply Frz.l)) <;> conv => whnf) | fail)
    (refine ⟨_, _, ⟨o, a, rfl, rfl, ⟨by omega, ho⟩, ha⟩, ?_⟩; conv => whnf); repeat' (first | with_reducible apply True.intro | ((first | (with_reducible apply Same.rfl) | (with_reducible apply Cut.l) | (with_reducible apply Frz.l)) <;> conv => whnf) | fail)
theorem k_Mixed (l : List Int) (k : Int) (L : List Frg) (t : Tg) (hk : 0 ≤ k) (hl : l.length ≤ 400) (hL : 1 ≤ L.length ∧ L.length ≤ 60) :
    ∃ r hp', (∃ (M : List Frg) (k' : Int), r = .fs .no 4 (lst frgV M) ∧ hp' = [.cells (tape l k')] ∧ (M.length ≤ 120 ∧ ∀ f ∈ M, f ∈ L) ∧ 0 ≤ k') ∧ Con Try.prog 28 [.pb 0 [], .fs t 4 (lst frgV L)] [.cells (tape l k)] r hp' := by
  obtain ⟨r, hp', ⟨M, k', rfl, rfl, hM, hk'⟩, hc⟩ := k_Mixed0 l k L t hk hl hL
  refine ⟨_, _, ⟨M, k', rfl, rfl, hM, hk'⟩, hc.fz 1 (Nat.le_refl _) (.one (.whole (Nat.le_refl 1) rfl) (fun l h => by cases h)) rfl ?_ rfl rfl⟩
  intro k ob h1 h2
  match k, h1, h2 with
  | 1, _, h2 => cases h2; exact ⟨_, _, _, rfl⟩
/-- Ahead of a loop a nil slice is taken for a shared one without elements. -/
theorem LoopN.nilS {P : Program} {n : Sz} {c : Code} {e : List (Nat × SV)} {h : List OB} {K : Exit → List (Nat × SV) → List OB → Prop} (t E : Nat) (ht : lk e t = some (.v (.slice none 0 0))) (hk : LoopN P n c ((t, .fs .no E []) :: e) h K) : LoopN P n c e h K := by
  rw [loopN_iff] at hk ⊢
  obtain ⟨x, e', h2, h3, h4⟩ := hk
  refine ⟨x, e', h2, h3, fun B cx a w Q hB hs hK => h4 B cx a w Q hB ⟨hs.df, hs.sz, fun t' s' hl => ?_, hs.mem, hs.fr⟩ hK⟩
  rw [lk_cons_if] at hl
  split at hl
  · rename_i he
    subst he
    cases hl
    obtain ⟨v, h1, h2⟩ := hs.sl _ _ ht
    exact ⟨v, h1, (relV_of1 (fun l e => by cases e)).2 (ArgLe.nil cx w v ((relV_of1 (fun l e => by cases e)).1 h2))⟩
  · exact hs.sl _ _ hl
/-- Small buffers. -/
def sizC (l : List Buf) : Prop := l.length ≤ 1000 ∧ ∀ b ∈ l, b.parts.length ≤ 5000 ∧ ∀ f ∈ b.parts, f.data.length ≤ 5000
theorem sizC.siz {l : List Buf} (h : sizC l) : sizL l := ⟨by have := h.1; omega, fun b hb => ⟨by have := (h.2 b hb).1; omega, fun f hf => by have := (h.2 b hb).2 f hf; omega⟩⟩
theorem sizC_nil : sizC [] := ⟨by simp, fun b hb => by cases hb⟩
theorem withB_sizC {b fr : Buf} {f : Frg} (hb : validB b = true) (hf : f.data.length ≤ 5000) (hfr : fr.parts.length ≤ 5000 ∧ ∀ f ∈ fr.parts, f.data.length ≤ 5000) : (withB b f fr).parts.length ≤ 5000 ∧ ∀ x ∈ (withB b f fr).parts, x.data.length ≤ 5000 := by
  obtain ⟨h1, h2⟩ := validB_parts hb
  unfold withB addP
  split
  · rename_i ps hps
    split at hps
    · cases hps; exact ⟨by dsimp only; omega, fun x hx => by have := (h2 x hx).2; omega⟩
    · split at hps
      · cases hps
      · cases hps
        refine ⟨?_, fun x hx => ?_⟩
        · have := posF_le f b.parts
          simp [insF]; omega
        · rcases insF_mem hx with h | h
          · have := (h2 x h).2; omega
          · rw [h]; exact hf
  · exact hfr
theorem finB_sizC {L : List Buf} {i : Nat} (h : sizC L) : sizC (finB L i).1 := by
  unfold finB
  split
  · exact h
  · exact ⟨by have := h.1; have := List.length_eraseIdx_le L i; dsimp only; omega, fun b hb => h.2 b (List.mem_of_mem_eraseIdx hb)⟩
theorem addM_sizC (l : List Buf) (src dst : Adr) (f : Frg) (hf : f.data.length ≤ 5000) (now : Int) : sizC (addM l src dst f now).1 := by
  have hfr : (freshB src dst f now).parts.length ≤ 5000 ∧ ∀ x ∈ (freshB src dst f now).parts, x.data.length ≤ 5000 := ⟨by simp [freshB], fun x hx => by rw [List.mem_singleton.1 hx]; exact hf⟩
  by_cases hok : validL l = true ∧ someA src = true ∧ someA dst = true ∧ okF f = true
  case neg => rw [addM_bad hok]; exact sizC_nil
  by_cases hn : isTm now
  case neg => rw [addM_time hok hn]; exact sizC_nil
  have hlen := expB_len l now
  have hv := validL_iff.1 hok.1
  have hKv : ∀ b ∈ expB l now, validB b = true := fun b hb => by
    have := (List.mem_filter.1 hb).1
    obtain ⟨i, hi, rfl⟩ := List.mem_iff_getElem.1 this
    rw [← gt_eq hi]; exact (hv.2 i hi).1
  have hE : ∀ b ∈ expB l now, b.parts.length ≤ 5000 ∧ ∀ f ∈ b.parts, f.data.length ≤ 5000 := fun b hb => by
    obtain ⟨h1, h2⟩ := validB_parts (hKv b hb)
    exact ⟨by omega, fun x hx => by have := (h2 x hx).2; omega⟩
  rw [addM_ok hok hn]
  split
  · rename_i hany
    refine finB_sizC ⟨by rw [List.length_set]; omega, fun b hb => ?_⟩
    rcases List.mem_or_eq_of_mem_set hb with h1 | h1
    · exact hE b h1
    · rw [h1]
      refine withB_sizC ?_ hf hfr
      rcases idxF_cases (keyF src dst f) (expB l now) with ⟨hx, _⟩ | ⟨i, hi, hx, _, _⟩
      · have := idxF_any (keyF src dst f) (expB l now)
        rw [hx, hany] at this
        cases this
      · rw [hx, Int.toNat_natCast]
        exact hKv _ (gt_mem hi)
  · split
    · exact sizC_nil
    · refine finB_sizC ⟨by rw [List.length_append, List.length_singleton]; omega, fun b hb => ?_⟩
      rcases List.mem_append.1 hb with h1 | h1
      · exact hE b h1
      · rw [List.mem_singleton.1 h1]; exact hfr
structure ReaI where
  i : Int
  n : Int
  a : Int
  L : List Buf
  hi : 0 ≤ i ∧ i ≤ 8
  hn : 0 ≤ n ∧ n ≤ 20 + 12 * (8 - i)
  ha : 0 ≤ a
  hL : sizC L
structure ReaJ (n0 : Int) where
  j : Nat
  n : Int
  a : Int
  L : List Buf
  hj : j ≤ 3
  hn : 0 ≤ n ∧ n ≤ n0 + 4 * j
  ha : 0 ≤ a
  hL : sizC L
theorem k_reached (l : List Int) (k : Int) (hk : 0 ≤ k) (hl : l.length ≤ 400) :
    ∃ r hp', (∃ (L : List Buf) (n k' : Int), r = .tup [.fs .no 10 (lst bufV L), int n] ∧ hp' = [.cells (tape l k')] ∧ sizC L ∧ (0 ≤ n ∧ n ≤ 1000) ∧ 0 ≤ k') ∧ Con Try.prog 10 [.pb 0 []] [.cells (tape l k)] r hp' := by
  have cd := k_device 9 (by omega)
  refine spec_of_runR ttok mixed (T0 := 562952101039101) (ts := [.tmp 2, .tmp 3]) 57 rfl rfl rfl rfl (by simp) rfl ?_
  conv => whnf
  repeat' (first | ((first | (refine CallN.ex (k_tape_Next l _ 20 (by omega) hl (by omega)) ?_; rintro _ _ ⟨n0, k1, rfl, rfl, a1, a2, a3⟩) | (with_reducible apply Frz.l)) <;> conv => whnf) | fail)
  repeat' (first | ((first | (refine CallN.ex (k_tape_Next l _ 8 (by omega) hl (by omega)) ?_; rintro _ _ ⟨i0, k2, rfl, rfl, b1, b2, b3⟩) | (with_reducible apply Frz.l)) <;> conv => whnf) | fail)
  refine LoopN.nilS 4 10 rfl ?_
  refine loop_keep ttok mixed (T0 := 562952101039101) [] (ι := ReaI)
    (fun p => [(0, .pb 0 []), (4, .fs .no 10 (lst bufV p.L)), (5, int p.n), (6, int p.i)]) (fun p => [.cells (tape l p.a)]) (fun p => p.i.toNat) ⟨i0, n0, k2, [], by omega, by omega, b3, sizC_nil⟩ ?_
  conv => whnf
  repeat' (first | ((apply Same.mk rfl); (conv => whnf)) | ((with_reducible apply Frz.l) <;> conv => whnf) | fail)
  rintro ⟨i, n, a, L, hi, hn, ha, hL⟩
  dsimp only
  conv => whnf
  by_cases hi0 : 0 < i
  · repeat' (first | ((first | (refine CallN.ex (k_Fragments l _ (by omega) hl) ?_; rintro _ _ ⟨F, k3, rfl, rfl, ⟨l1, l2, l3⟩, c3⟩) | (refine CallN.ex (k_Mixed l _ _ _ (by omega) hl (by omega)) ?_; rintro _ _ ⟨M, k4, rfl, rfl, ⟨m1, m2⟩, d3⟩) | ((with_reducible apply Bif.dec) <;> intro h <;> (try simp only [lns] at h) <;> (try (exfalso; omega))) | (with_reducible apply Frz.l)) <;> conv => whnf) | fail)
    have hMf : ∀ j, j < M.length → (gt M j).data.length ≤ 5000 := fun j hj => by
      have := okF_iff.1 (l3 _ (m2 _ (gt_mem hj)))
      omega
    refine loop_keep ttok mixed (T0 := 562952101039101) [6, 7] (ι := ReaJ n)
      (fun p => [(0, .pb 0 []), (4, .fs .no 10 (lst bufV p.L)), (5, int p.n), (8, int (p.j : Int))]) (fun p => [.cells (tape l p.a)]) (fun p => 3 - p.j) ⟨0, n, k4, L, by omega, by omega, d3, hL⟩ ?_
    conv => whnf
    repeat' (first | ((apply Same.mk rfl); (conv => whnf)) | ((with_reducible apply Frz.l) <;> conv => whnf) | fail)
    rintro ⟨j, n1, a1, L1, hj, hn1, ha1, hL1⟩
    dsimp only
    conv => whnf
    by_cases hjm : j < M.length ∧ j < 3
    · have hfj := hMf j hjm.1
      repeat' (first | ((first | ((with_reducible apply Nm.mk); focus ((try simp only [lns]); exact rfl)) | ((with_reducible apply Wr.i64); focus omega) | ((with_reducible apply Need.mk); focus first | (simp only [lns]; omega) | kernel_rfl) | ((with_reducible apply Elem.lst); focus omega) | (refine CallN.ex (k_Device l _ (by omega) hl) ?_; rintro _ _ ⟨d, k5, rfl, rfl, e1, e2⟩) | (apply CallN.mk (cd)) | (apply CallN.mk (k_rAdd L1 _ hL1.siz _ (dev 9) (gt M j) (by omega) n1)) | (refine CallN.ex (k_tape_Next l _ 4 (by omega) hl (by omega)) ?_; rintro _ _ ⟨y, k6, rfl, rfl, f1, f2, f3⟩) | (with_reducible apply Bif.T) | ((with_reducible first | apply Bif.dec | apply Bif.beq) <;> intro h <;> (try simp only [lns] at h) <;> (try (exfalso; omega))) | (with_reducible apply Frz.l)) <;> conv => whnf) | fail)
      · (refine ⟨⟨j + 1, n1 + y, k6, _, by omega, by omega, f3, addM_sizC L1 d (dev 9) (gt M j) hfj n1⟩, ?_⟩; (try dsimp only); conv => whnf); repeat' (first | with_reducible apply True.intro | ((apply Same.mk rfl); (conv => whnf)) | ((first | ((with_reducible apply Need.mk); focus omega) | (with_reducible apply Turn.l) | (with_reducible apply Frz.l)) <;> conv => whnf) | fail)
      · (refine ⟨⟨j + 1, n1 + y, k6, L1, by omega, by omega, f3, hL1⟩, ?_⟩; (try dsimp only); conv => whnf); repeat' (first | with_reducible apply True.intro | ((apply Same.mk rfl); (conv => whnf)) | ((first | ((with_reducible apply Need.mk); focus omega) | (with_reducible apply Turn.l) | (with_reducible apply Frz.l)) <;> conv => whnf) | fail)
    · repeat' (first | ((first | ((with_reducible apply Nm.mk); focus ((try simp only [lns]); exact rfl)) | ((with_reducible apply Wr.i64); focus omega) | (with_reducible first | apply Bif.T | apply Bif.F) | ((with_reducible apply Bif.dec) <;> intro h <;> (try simp only [lns] at h) <;> (try (exfalso; omega))) | (with_reducible apply Frz.l)) <;> conv => whnf) | fail)
      all_goals ((refine ⟨⟨i - 1, n1, a1, L1, by omega, by omega, ha1, hL1⟩, ?_⟩; (try dsimp only); conv => whnf); repeat' (first | with_reducible apply True.intro | ((apply Same.mk rfl); (conv => whnf)) | ((first | ((with_reducible apply Need.mk); focus omega) | (with_reducible apply Turn.l) | (with_reducible apply Frz.l)) <;> conv => whnf) | fail))
  · repeat' (first | ((first | ((with_reducible apply Bif.dec) <;> intro h <;> (try simp only [lns] at h) <;> (try (exfalso; omega))) | (with_reducible apply Frz.l)) <;> conv => whnf) | fail)
    (refine ⟨_, _, ⟨L, n, a, rfl, rfl, hL, by omega, ha⟩, ?_⟩; conv => whnf); repeat' (first | with_reducible apply True.intro | ((first | (with_reducible apply Same.rfl) | (with_reducible apply Frz.l)) <;> conv => whnf) | fail)
end Go.Fw
