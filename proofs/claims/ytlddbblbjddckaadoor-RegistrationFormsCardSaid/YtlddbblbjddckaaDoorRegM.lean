/- RegistrationConfirms, RegistrationFull: the walks. -/
import Derived.Test.YtlddbblbjddckaaDoorRegL
namespace Go.Fw
open Go.Proofs
set_option maxHeartbeats 16000000
set_option maxRecDepth 4000
/-! ### Tables of one entry -/
theorem cur_one {e : Reg} {now : Int} : curR [e] now = if e.upto > now then [e] else [] := by
  by_cases h : e.upto > now <;> simp [curR, h]
theorem luk_nil {a : IP} {now : Int} : lukM [] a now = (reg0, false) := by
  rw [lukM, if_neg]
  rintro ⟨_, _, h, _⟩
  have : curR [] now = [] := rfl
  rw [this] at h
  simp [fndK, bsF] at h
theorem luk_one {e : Reg} {now : Int} (hv : validR [e] = true) (hn : isT now) : lukM [e] e.ip now = if e.upto > now ∧ e.state = 2 then (e, true) else (reg0, false) := by
  obtain ⟨f1, f2⟩ := at_one e hv
  have g : gt [e] 0 = e := rfl
  by_cases h : e.upto > now
  · have hc : curR [e] now = [e] := by rw [cur_one, if_pos h]
    rw [lukM, hc, f2, g]
    simp [hv, hn, f1, h]
  · have hc : curR [e] now = [] := by rw [cur_one, if_neg h]
    rw [lukM, hc, if_neg, if_neg]
    · exact fun h2 => h h2.1
    · rintro ⟨_, _, h2, _⟩
      simp [fndK, bsF] at h2
theorem con_nil {a : IP} {who st now : Int} (hn : isT now) : conM [] a who st now = ([], false, 0) := by
  rw [conM, if_pos validR_nil, if_pos hn]
  have : conR (curR [] now) a who st = ([], false) := by
    have : curR [] now = [] := rfl
    rw [this, conR, if_neg]
    rintro ⟨h, _⟩
    simp [fndK, bsF] at h
  rw [this]
theorem con_one {e : Reg} {who st now : Int} (hv : validR [e] = true) (hn : isT now) (hu : e.upto > now) :
    conM [e] e.ip who st now = if e.eui = who ∧ e.state = 1 then (if st ≠ 0 then ([], true, 0) else ([⟨e.ip, e.eui, e.seq, e.link, 2, e.upto⟩], true, 0)) else ([e], false, 0) := by
  obtain ⟨f1, f2⟩ := at_one e hv
  have g : gt [e] 0 = e := rfl
  have hc : curR [e] now = [e] := by rw [cur_one, if_pos hu]
  rw [conM, if_pos hv, if_pos hn, hc, conR, f2, g, f1]
  by_cases h1 : e.eui = who ∧ e.state = 1
  · rw [if_pos ⟨rfl, h1⟩, if_pos h1]
    by_cases h2 : st ≠ 0
    · rw [if_pos h2, if_pos h2]; rfl
    · rw [if_neg h2, if_neg h2]; rfl
  · rw [if_neg (fun h => h1 h.2), if_neg h1]
def cfE (life s : Int) : Reg := ⟨ip0, 5, 0, lnk, s, life⟩
theorem cfE_ok {life s : Int} (hl : 0 ≤ life ∧ life ≤ 100) (hs : s = 1 ∨ s = 2) : validR [cfE life s] = true :=
  validR_one (regOK_iff.2 ⟨by show gt ip0.1 0 ≠ 255; decide, lnk_one, hs, by show 0 ≤ life; omega, by show life ≤ 1099511627776; omega⟩)
theorem cfE_seq {life s : Int} : seqR [cfE life s] := fun r h => by rw [List.mem_singleton.1 h]; exact ⟨by show (0 : Int) ≤ 0; omega, by show (0 : Int) ≤ 255; omega⟩
theorem k_RegistrationConfirms (l0 w0 st : Int) : Con Tryd.prog 10 [int l0, int w0, .v (.int .u8 st)] [] (bool true) [] := by
  have m1 := modV_range (v := l0) (n := 50) (by omega)
  have c1 := k_made_Mod l0 50 (by omega)
  generalize modV l0 50 = lf at *
  have m2 := modV_range (v := w0) (n := 2 + lf) (by omega)
  have c2 := k_made_Mod w0 (2 + lf) (by omega)
  generalize modV w0 (2 + lf) = wn at *
  have b1 := k_Register [] .no ip0 ⟨5, 0, 0, 2 + lf⟩ lnk 0 (by simp) seqR_nil ⟨by dsimp only; omega, by dsimp only; omega⟩
  obtain ⟨e1, _⟩ := TabR.nil.reg (a := ip0) (o := ⟨5, 0, 0, 2 + lf⟩) (k := lnk) (now := 0) (by decide) lnk_one ⟨by omega, by omega⟩ ⟨by dsimp only; omega, by dsimp only; omega⟩
  have hE : newR ip0 ⟨5, 0, 0, 2 + lf⟩ lnk 0 = cfE (2 + lf) 1 := by
    simp only [newR, cfE]
    rw [show min (0 + (2 + lf)) 1099511627776 = 2 + lf by omega]
  rw [show curR [] 0 = [] from rfl, askR_nil (by dsimp only; omega), hE] at e1
  rw [e1] at b1
  have v1 := cfE_ok (life := 2 + lf) (s := 1) (by omega) (.inl rfl)
  have v2 := cfE_ok (life := 2 + lf) (s := 2) (by omega) (.inr rfl)
  have b2 := k_Lookup [cfE (2 + lf) 1] .no ip0 wn (by simp)
  rw [show lukM [cfE (2 + lf) 1] ip0 wn = (reg0, false) by rw [show ip0 = (cfE (2 + lf) 1).ip from rfl, luk_one v1 ⟨by omega, by omega⟩, if_neg (by rintro ⟨_, h⟩; exact absurd h (by show ¬ (1 : Int) = 2; omega))]] at b2
  have b3 := k_Confirm [cfE (2 + lf) 1] .no ip0 6 st wn (by simp)
  rw [show conM [cfE (2 + lf) 1] ip0 6 st wn = ([cfE (2 + lf) 1], false, 0) by rw [show ip0 = (cfE (2 + lf) 1).ip from rfl, con_one v1 ⟨by omega, by omega⟩ (by show 2 + lf > wn; omega), if_neg (by rintro ⟨h, _⟩; exact absurd h (by show ¬ (5 : Int) = 6; omega))]] at b3
  have b4 := k_Confirm [cfE (2 + lf) 1] .no ip0 5 st wn (by simp)
  have e4 : conM [cfE (2 + lf) 1] ip0 5 st wn = if st ≠ 0 then ([], true, 0) else ([cfE (2 + lf) 2], true, 0) := by
    rw [show ip0 = (cfE (2 + lf) 1).ip from rfl, con_one v1 ⟨by omega, by omega⟩ (by show 2 + lf > wn; omega), if_pos ⟨rfl, rfl⟩]; rfl
  rw [e4] at b4
  by_cases hst : st ≠ 0
  · rw [if_pos hst] at b4
    have b5 := k_Lookup [] .no ip0 (2 + lf - 1) (by simp)
    rw [luk_nil] at b5
    have b6 := k_Lookup [] .no ip0 (2 + lf) (by simp)
    rw [luk_nil] at b6
    have b7 := k_Confirm [] .no ip0 5 st wn (by simp)
    rw [con_nil ⟨by omega, by omega⟩] at b7
    dsimp only at b1 b2 b3 b4 b5 b6 b7
    refine spec_of_run ttok mixed (T0 := 123721671) (ts := [.tmp 6]) 162 rfl rfl rfl rfl (by simp) rfl ?_
    conv => whnf
    repeat' (first | with_reducible apply True.intro | ((apply Elem.mk (adrV lnk) rfl); (conv => whnf)) | ((refine Same.bool ?_ ?_); (focus (simp [hst]; done)); (conv => whnf)) | ((first | (with_reducible first | apply Nm.set _ (int_mk _) | apply Nm.snoc _ (int_mk _) | apply Nm.rep _ (int_mk _) | apply Nm.set _ (bool_mk _) | apply Nm.snoc _ (bool_mk _) | apply Nm.rep _ (bool_mk _) | apply Nm.set _ (rfl) | apply Nm.snoc _ (rfl) | apply Nm.rep _ (rfl)) | ((with_reducible apply Nm.mk); focus ((try simp only [lns, ipRows_take]); exact rfl)) | ((with_reducible first | apply Wr.i64 | apply Wr.u8 | apply Wr.u16 | apply Wr.u32 | apply Wr.u64); focus omega) | ((with_reducible apply Need.mk); focus first | omega | (simp only [lns, ipRows_take]; omega) | exact List.cons_ne_nil _ _ | exact CleanP.nil rfl | exact CleanP.cell rfl rfl | exact CleanP.lst rfl (fun _ => rfl) | exact CleanP.lst2 rfl (fun _ => rfl) (fun _ => rfl) | kernel_rfl | (dsimp only; omega) | (unfold roomOK; simp only [lns, ipRows_take]; omega)) | ((with_reducible apply Elem.lst); focus first | omega | (simp only [lns, ipRows_take]; omega)) | (apply CallN.mk (k_known)) | (apply CallN.mk (c1)) | (apply CallN.mk (c2)) | (apply CallN.le (b1); focus ((repeat' (first | (with_reducible apply ArgLe.nil) | (exact ArgLe.nil) | (exact ArgLe.rfl) | (exact ArgLe.fs) | (exact True.intro) | (apply And.intro) | fail)); done)) | (apply CallN.mk (b2)) | (apply CallN.mk (b3)) | (apply CallN.mk (b4)) | (apply CallN.mk (b5)) | (apply CallN.mk (b6)) | (apply CallN.mk (b7)) | (with_reducible first | apply Bif.T | apply Bif.F) | ((with_reducible first | apply Bif.dec | apply Bif.beq | apply Bif.bne) <;> intro h <;> (try simp only [lns, ipRows_take] at h) <;> (try first | (exfalso; omega) | (exact absurd True.intro h) | (simp_all; done))) | (with_reducible first | apply Bif.not | apply Bif.and | apply Bif.or) | ((with_reducible apply Bif.mk) <;> intro h <;> (try first | (exfalso; omega) | (exact absurd True.intro h) | (simp_all; done))) | (with_reducible apply Same.rfl) | (apply Same.int; focus first | rfl | omega | (dsimp only; omega) | (simp only [lns, ipRows_take]; omega)) | (apply Same.bool; focus (with_reducible rfl)) | (apply Same.ov; (focus first | rfl | omega | (simp only [lns, ipRows_take]; omega)); focus first | rfl | omega | (simp only [lns, ipRows_take]; first | done | omega)) | ((with_reducible apply Same.mk); focus first | omega | (simp only [lns, ipRows_take]; omega)) | (apply Same.rfl) | (with_reducible first | apply Alt.l | apply Sl3.l | apply Cut.l | apply Turn.l | apply GiveN.lend)) <;> conv => whnf) | fail)
  · rw [if_neg hst] at b4
    obtain rfl : st = 0 := by omega
    clear hst e4
    have b5 := k_Lookup [cfE (2 + lf) 2] .no ip0 (2 + lf - 1) (by simp)
    rw [show lukM [cfE (2 + lf) 2] ip0 (2 + lf - 1) = (cfE (2 + lf) 2, true) by rw [show ip0 = (cfE (2 + lf) 2).ip from rfl, luk_one v2 ⟨by omega, by omega⟩, if_pos ⟨by show 2 + lf > 2 + lf - 1; omega, rfl⟩]] at b5
    have b6 := k_Lookup [cfE (2 + lf) 2] .no ip0 (2 + lf) (by simp)
    rw [show lukM [cfE (2 + lf) 2] ip0 (2 + lf) = (reg0, false) by rw [show ip0 = (cfE (2 + lf) 2).ip from rfl, luk_one v2 ⟨by omega, by omega⟩, if_neg (by rintro ⟨h, _⟩; exact absurd h (by show ¬ 2 + lf > 2 + lf; omega))]] at b6
    have b7 := k_Confirm [cfE (2 + lf) 2] .no ip0 5 0 wn (by simp)
    rw [show conM [cfE (2 + lf) 2] ip0 5 0 wn = ([cfE (2 + lf) 2], false, 0) by rw [show ip0 = (cfE (2 + lf) 2).ip from rfl, con_one v2 ⟨by omega, by omega⟩ (by show 2 + lf > wn; omega), if_neg (by rintro ⟨_, h⟩; exact absurd h (by show ¬ (2 : Int) = 1; omega))]] at b7
    dsimp only at b1 b2 b3 b4 b5 b6 b7
    have n1 : (cfE (2 + lf) 2).eui = 5 := rfl
    have n2 : (cfE (2 + lf) 2).link = lnk := rfl
    refine spec_of_run ttok mixed (T0 := 123721671) (ts := [.tmp 6]) 162 rfl rfl rfl rfl (by simp) rfl ?_
    conv => whnf
    repeat' (first | with_reducible apply True.intro | ((apply Elem.mk (adrV lnk) rfl); (conv => whnf)) | ((refine Same.bool ((adr_eq _ _).trans (decide_eq_true n2)) ?_); (conv => whnf)) | ((first | (with_reducible first | apply Nm.set _ (int_mk _) | apply Nm.snoc _ (int_mk _) | apply Nm.rep _ (int_mk _) | apply Nm.set _ (bool_mk _) | apply Nm.snoc _ (bool_mk _) | apply Nm.rep _ (bool_mk _) | apply Nm.set _ (rfl) | apply Nm.snoc _ (rfl) | apply Nm.rep _ (rfl)) | ((with_reducible apply Nm.mk); focus ((try simp only [lns, ipRows_take]); exact rfl)) | ((with_reducible first | apply Wr.i64 | apply Wr.u8 | apply Wr.u16 | apply Wr.u32 | apply Wr.u64); focus omega) | ((with_reducible apply Need.mk); focus first | omega | (simp only [lns, ipRows_take]; omega) | exact List.cons_ne_nil _ _ | exact CleanP.nil rfl | exact CleanP.cell rfl rfl | exact CleanP.lst rfl (fun _ => rfl) | exact CleanP.lst2 rfl (fun _ => rfl) (fun _ => rfl) | kernel_rfl | (dsimp only; omega) | (unfold roomOK; simp only [lns, ipRows_take]; omega)) | ((with_reducible apply Elem.lst); focus first | omega | (simp only [lns, ipRows_take]; omega)) | (apply CallN.mk (k_known)) | (apply CallN.mk (c1)) | (apply CallN.mk (c2)) | (apply CallN.le (b1); focus ((repeat' (first | (with_reducible apply ArgLe.nil) | (exact ArgLe.nil) | (exact ArgLe.rfl) | (exact ArgLe.fs) | (exact True.intro) | (apply And.intro) | fail)); done)) | (apply CallN.mk (b2)) | (apply CallN.mk (b3)) | (apply CallN.mk (b4)) | (apply CallN.mk (b5)) | (apply CallN.mk (b6)) | (apply CallN.mk (b7)) | (with_reducible first | apply Bif.T | apply Bif.F) | ((with_reducible first | apply Bif.dec | apply Bif.beq | apply Bif.bne) <;> intro h <;> (try simp only [lns, ipRows_take] at h) <;> (try first | (exfalso; omega) | (exact absurd True.intro h) | (exact absurd rfl h) | (exact absurd n1 h))) | (with_reducible first | apply Bif.not | apply Bif.and | apply Bif.or) | ((with_reducible apply Bif.mk) <;> intro h <;> (try first | (exfalso; omega) | (exact absurd True.intro h) | (exact absurd rfl h) | (exact absurd n1 h))) | (with_reducible apply Same.rfl) | (apply Same.int; focus first | rfl | omega | (dsimp only; omega) | (simp only [lns, ipRows_take]; omega)) | (apply Same.bool; focus (with_reducible rfl)) | (apply Same.ov; (focus first | rfl | omega | (simp only [lns, ipRows_take]; omega)); focus first | rfl | omega | (simp only [lns, ipRows_take]; first | done | omega)) | ((with_reducible apply Same.mk); focus first | omega | (simp only [lns, ipRows_take]; omega)) | (apply Same.rfl) | (with_reducible first | apply Alt.l | apply Sl3.l | apply Cut.l | apply Turn.l | apply GiveN.lend)) <;> conv => whnf) | fail)
/-! ### Full -/
theorem ipN_ok (x : Int) : (List.set [0, 0, 0, 0, 0, 0, 0, 0, 0, 0, 0, 0, 0, 0, 0, 0] 15 (x % 256)).length = 16 ∧ ∀ z ∈ List.set [0, 0, 0, 0, 0, 0, 0, 0, 0, 0, 0, 0, 0, 0, 0, 0] 15 (x % 256), 0 ≤ z ∧ z ≤ 255 := byt_set (by decide) (by omega)
def ipN (x : Int) : IP := ⟨List.set [0, 0, 0, 0, 0, 0, 0, 0, 0, 0, 0, 0, 0, 0, 0, 0] 15 (x % 256), ipN_ok x⟩
theorem ipF_ok (x : Int) : (List.set (List.set [0, 0, 0, 0, 0, 0, 0, 0, 0, 0, 0, 0, 0, 0, 0, 0] 14 1) 15 (x % 256)).length = 16 ∧ ∀ z ∈ List.set (List.set [0, 0, 0, 0, 0, 0, 0, 0, 0, 0, 0, 0, 0, 0, 0, 0] 14 1) 15 (x % 256), 0 ≤ z ∧ z ≤ 255 := byt_set (by decide) (by omega)
def ipF (x : Int) : IP := ⟨List.set (List.set [0, 0, 0, 0, 0, 0, 0, 0, 0, 0, 0, 0, 0, 0, 0, 0] 14 1) 15 (x % 256), ipF_ok x⟩
def flR (i : Nat) : Reg := ⟨ipN i, 1, 0, lnk, 1, 9⟩
def flL (k : Nat) : List Reg := (List.range k).map flR
theorem flL_len (k : Nat) : (flL k).length = k := by simp [flL]
theorem fl_step : ∀ i : Fin 16, regM (flL i.1) (ipN i.1) ⟨1, 0, 0, 9⟩ lnk 0 = (flL (i.1 + 1), 0, 0) := by decide +kernel
theorem fl_valid : ∀ i : Fin 17, validR (flL i.1) = true := by decide +kernel
theorem flL_seq (k : Nat) : seqR (flL k) := fun r hr => by
  obtain ⟨i, _, rfl⟩ := List.mem_map.1 hr
  exact ⟨by show (0 : Int) ≤ 0; omega, by show (0 : Int) ≤ 255; omega⟩
theorem fl_renew : ∀ n : Fin 16, (regM (flL 16) (ipN n.1) ⟨1, 1, 0, 9⟩ lnk 1).2 = (0, 0) := by decide +kernel
theorem fl_give : ∀ n : Fin 16, regM (flL 16) (ipN n.1) ⟨1, 1, 0, 0⟩ lnk 1 = (delR (flL 16) n.1, 0, 0) := by decide +kernel
theorem flL_upto {k : Nat} : ∀ r ∈ flL k, r.upto = 9 ∧ gt r.ip.1 14 = 0 := fun r hr => by
  obtain ⟨i, _, rfl⟩ := List.mem_map.1 hr
  exact ⟨rfl, rfl⟩
theorem cur_all {c : List Reg} {now : Int} (h : ∀ r ∈ c, r.upto = 9) (hn : now < 9) : curR c now = c :=
  List.filter_eq_self.2 fun r hr => by have := h r hr; simp; omega
theorem ipF_not {c : List Reg} {x : Int} (h : ∀ r ∈ c, gt r.ip.1 14 = 0) : fndR c (ipF x) = false := by
  cases hf : fndR c (ipF x)
  · rfl
  · obtain ⟨h1, h2⟩ := fndR_iff.1 hf
    have h3 := h _ (gt_mem h1)
    rw [h2] at h3
    exact absurd h3 (show ¬ (1 : Int) = 0 by omega)
theorem k_RegistrationFull (n0 mo : Int) (hmo : 0 ≤ mo ∧ mo ≤ 255) : Con Tryd.prog 4 [int n0, .v (.int .u8 mo)] [] (bool true) [] := by
  have m1 := modV_range (v := n0) (n := 16) (by omega)
  have c1 := k_made_Mod n0 16 (by omega)
  generalize modV n0 16 = n at *
  obtain ⟨y, hy⟩ := fin_ex2 (x := n) (n := 16) (by omega)
  have hy2 := y.2
  have f1 := fl_renew ⟨y.1, by omega⟩
  have f2 := fl_give ⟨y.1, by omega⟩
  dsimp only at f1 f2
  rw [← hy] at f1 f2
  have hT : TabR (flL 16) := ⟨fl_valid 16, flL_seq 16⟩
  have u1 : ∀ r ∈ flL 16, r.upto = 9 := fun r hr => (flL_upto r hr).1
  have u2 : ∀ r ∈ flL 16, gt r.ip.1 14 = 0 := fun r hr => (flL_upto r hr).2
  have hF : gt (ipF mo).1 0 ≠ 255 := by show (0 : Int) ≠ 255; omega
  have hl16 := flL_len 16
  have hD := delR_len (l := flL 16) (i := y.1) (by omega)
  have b1 := k_Register (flL 16) .no (ipF mo) ⟨1, 0, 0, 9⟩ lnk 0 (by omega) hT.seq ⟨by dsimp only; omega, by dsimp only; omega⟩
  obtain ⟨e1, _⟩ := hT.reg (a := ipF mo) (o := ⟨1, 0, 0, 9⟩) (k := lnk) (now := 0) hF lnk_one ⟨by omega, by omega⟩ ⟨by dsimp only; omega, by dsimp only; omega⟩
  rw [cur_all u1 (by omega), askR, ipF_not u2, if_neg (by simp), if_neg (by show ¬ (9 : Int) = 0; omega), if_pos (by omega)] at e1
  rw [e1] at b1
  have b2 := k_Register (flL 16) .no (ipN n) ⟨1, 1, 0, 9⟩ lnk 1 (by omega) hT.seq ⟨by dsimp only; omega, by dsimp only; omega⟩
  have b3 := k_Register (flL 16) .no (ipN n) ⟨1, 1, 0, 0⟩ lnk 1 (by omega) hT.seq ⟨by dsimp only; omega, by dsimp only; omega⟩
  rw [f2] at b3
  generalize regM (flL 16) (ipN n) ⟨1, 1, 0, 9⟩ lnk 1 = q2 at *
  obtain ⟨Q2, s2, er2⟩ := q2
  obtain ⟨rfl, rfl⟩ : s2 = 0 ∧ er2 = 0 := by simpa using f1
  have hTd : TabR (delR (flL 16) y.1) := ⟨delR_valid hT.valid, seqR_sub hT.seq (delR_sub _ _)⟩
  have u3 : ∀ r ∈ delR (flL 16) y.1, r.upto = 9 := fun r hr => u1 r ((delR_sub _ _).subset hr)
  have u4 : ∀ r ∈ delR (flL 16) y.1, gt r.ip.1 14 = 0 := fun r hr => u2 r ((delR_sub _ _).subset hr)
  have b4 := k_Register (delR (flL 16) y.1) .no (ipF mo) ⟨2, 0, 0, 9⟩ lnk 1 (by omega) hTd.seq ⟨by dsimp only; omega, by dsimp only; omega⟩
  obtain ⟨e4, t4⟩ := hTd.reg (a := ipF mo) (o := ⟨2, 0, 0, 9⟩) (k := lnk) (now := 1) hF lnk_one ⟨by omega, by omega⟩ ⟨by dsimp only; omega, by dsimp only; omega⟩
  rw [cur_all u3 (by omega), askR, ipF_not u4, if_neg (by simp), if_neg (by show ¬ (9 : Int) = 0; omega), if_neg (by omega)] at e4 t4
  rw [e4] at b4
  have hI := insR_len (delR (flL 16) y.1) (newR (ipF mo) ⟨2, 0, 0, 9⟩ lnk 1)
  generalize insR (delR (flL 16) y.1) (newR (ipF mo) ⟨2, 0, 0, 9⟩ lnk 1) = M at *
  generalize delR (flL 16) y.1 = D at *
  dsimp only at b1 b2 b3 b4 t4
  have qN : ∀ x : Int, 0 ≤ x → x ≤ 255 → ipV (ipN x) = SV.ba 16 (List.set [0, 0, 0, 0, 0, 0, 0, 0, 0, 0, 0, 0, 0, 0, 0, 0] 15 x) := fun x h1 h2 => by
    show SV.ba 16 (List.set _ 15 (x % 256)) = _
    rw [show x % 256 = x by omega]
  have qF : ipV (ipF mo) = SV.ba 16 (List.set (List.set [0, 0, 0, 0, 0, 0, 0, 0, 0, 0, 0, 0, 0, 0, 0, 0] 14 1) 15 mo) := by
    show SV.ba 16 (List.set _ 15 (mo % 256)) = _
    rw [show mo % 256 = mo by omega]
  rw [qF] at b1 b4
  rw [qN n (by omega) (by omega)] at b2 b3
  refine spec_of_run ttok mixed (T0 := 4398059075571) (ts := [.tmp 4]) 135 rfl rfl rfl rfl (by simp) rfl ?_
  conv => whnf
  repeat' (first | with_reducible apply True.intro | ((first | (with_reducible first | apply Nm.set _ (int_mk _) | apply Nm.snoc _ (int_mk _) | apply Nm.rep _ (int_mk _) | apply Nm.set _ (bool_mk _) | apply Nm.snoc _ (bool_mk _) | apply Nm.rep _ (bool_mk _) | apply Nm.set _ (rfl) | apply Nm.snoc _ (rfl) | apply Nm.rep _ (rfl)) | ((with_reducible apply Nm.mk); focus ((try simp only [lns, ipRows_take]); exact rfl)) | ((with_reducible first | apply Wr.i64 | apply Wr.u8 | apply Wr.u16 | apply Wr.u32 | apply Wr.u64); focus omega) | ((with_reducible apply Need.mk); focus first | omega | (simp only [lns, ipRows_take]; omega) | exact List.cons_ne_nil _ _ | exact CleanP.nil rfl | exact CleanP.cell rfl rfl | exact CleanP.lst rfl (fun _ => rfl) | exact CleanP.lst2 rfl (fun _ => rfl) (fun _ => rfl) | kernel_rfl | (dsimp only; omega) | (unfold roomOK; simp only [lns, ipRows_take]; omega)) | ((with_reducible apply Elem.lst); focus first | omega | (simp only [lns, ipRows_take]; omega)) | (with_reducible first | apply Bif.T | apply Bif.F) | ((with_reducible first | apply Bif.dec | apply Bif.beq | apply Bif.bne) <;> intro h <;> (try simp only [lns, ipRows_take] at h) <;> (try first | (exfalso; omega) | (exact absurd True.intro h))) | (with_reducible first | apply Bif.not | apply Bif.and | apply Bif.or) | ((with_reducible apply Bif.mk) <;> intro h <;> (try first | (exfalso; omega) | (exact absurd True.intro h))) | (with_reducible apply Same.rfl) | (apply Same.int; focus first | rfl | omega | (dsimp only; omega) | (simp only [lns, ipRows_take]; omega)) | (apply Same.bool; focus (with_reducible rfl)) | (apply Same.ov; (focus first | rfl | omega | (simp only [lns, ipRows_take]; omega)); focus first | rfl | omega | (simp only [lns, ipRows_take]; first | done | omega)) | ((with_reducible apply Same.mk); focus first | omega | (simp only [lns, ipRows_take]; omega)) | (apply Same.rfl) | (with_reducible first | apply Alt.l | apply Sl3.l | apply Cut.l | apply Turn.l | apply GiveN.lend)) <;> conv => whnf) | fail)
  refine LoopN.adopt 5 23 rfl (by simp) ?_
  refine loop_keep ttok mixed (T0 := 4398059075571) [0, 1] (ι := {k : Nat // k ≤ 16})
    (fun k => [(5, .ov 23 0 0 (flL k.1).length), (6, int (k.1 : Int))]) (fun k => [.arr none 23 (lst regV (flL k.1))]) (fun k => 16 - k.1) ⟨0, by omega⟩ ?_
  conv => whnf
  repeat' (first | with_reducible apply True.intro | ((apply Same.mk rfl); conv => whnf) | ((first | (with_reducible first | apply Nm.set _ (int_mk _) | apply Nm.snoc _ (int_mk _) | apply Nm.rep _ (int_mk _) | apply Nm.set _ (bool_mk _) | apply Nm.snoc _ (bool_mk _) | apply Nm.rep _ (bool_mk _) | apply Nm.set _ (rfl) | apply Nm.snoc _ (rfl) | apply Nm.rep _ (rfl)) | ((with_reducible apply Nm.mk); focus ((try simp only [lns, ipRows_take]); exact rfl)) | ((with_reducible first | apply Wr.i64 | apply Wr.u8 | apply Wr.u16 | apply Wr.u32 | apply Wr.u64); focus omega) | ((with_reducible apply Need.mk); focus first | omega | (simp only [lns, ipRows_take]; omega) | exact List.cons_ne_nil _ _ | exact CleanP.nil rfl | exact CleanP.cell rfl rfl | exact CleanP.lst rfl (fun _ => rfl) | exact CleanP.lst2 rfl (fun _ => rfl) (fun _ => rfl) | kernel_rfl | (dsimp only; omega) | (unfold roomOK; simp only [lns, ipRows_take]; omega)) | ((with_reducible apply Elem.lst); focus first | omega | (simp only [lns, ipRows_take]; omega)) | (with_reducible first | apply Bif.T | apply Bif.F) | ((with_reducible first | apply Bif.dec | apply Bif.beq | apply Bif.bne) <;> intro h <;> (try simp only [lns, ipRows_take] at h) <;> (try first | (exfalso; omega) | (exact absurd True.intro h))) | (with_reducible first | apply Bif.not | apply Bif.and | apply Bif.or) | ((with_reducible apply Bif.mk) <;> intro h <;> (try first | (exfalso; omega) | (exact absurd True.intro h))) | (with_reducible apply Same.rfl) | (apply Same.int; focus first | rfl | omega | (dsimp only; omega) | (simp only [lns, ipRows_take]; omega)) | (apply Same.bool; focus (with_reducible rfl)) | (apply Same.ov; (focus first | rfl | omega | (simp only [lns, ipRows_take]; omega)); focus first | rfl | omega | (simp only [lns, ipRows_take]; first | done | omega)) | ((with_reducible apply Same.mk); focus first | omega | (simp only [lns, ipRows_take]; omega)) | (apply Same.rfl) | (with_reducible first | apply Alt.l | apply Sl3.l | apply Cut.l | apply Turn.l | apply GiveN.lend)) <;> conv => whnf) | fail)
  rintro ⟨k, hk⟩
  dsimp only
  have hLk := flL_len k
  conv => whnf
  by_cases hk2 : k < 16
  · have g1 := fl_step ⟨k, hk2⟩
    dsimp only at g1
    have b0 := k_Register (flL k) .no (ipN k) ⟨1, 0, 0, 9⟩ lnk 0 (by omega) (flL_seq k) ⟨by dsimp only; omega, by dsimp only; omega⟩
    rw [g1, qN k (by omega) (by omega)] at b0
    dsimp only at b0
    repeat' (first | with_reducible apply True.intro | ((apply Elem.mk (adrV lnk) rfl); (conv => whnf)) | ((first | (with_reducible first | apply Nm.set _ (int_mk _) | apply Nm.snoc _ (int_mk _) | apply Nm.rep _ (int_mk _) | apply Nm.set _ (bool_mk _) | apply Nm.snoc _ (bool_mk _) | apply Nm.rep _ (bool_mk _) | apply Nm.set _ (rfl) | apply Nm.snoc _ (rfl) | apply Nm.rep _ (rfl)) | ((with_reducible apply Nm.mk); focus ((try simp only [lns, ipRows_take]); exact rfl)) | ((with_reducible first | apply Wr.i64 | apply Wr.u8 | apply Wr.u16 | apply Wr.u32 | apply Wr.u64); focus omega) | ((with_reducible apply Need.mk); focus first | omega | (simp only [lns, ipRows_take]; omega) | exact List.cons_ne_nil _ _ | exact CleanP.nil rfl | exact CleanP.cell rfl rfl | exact CleanP.lst rfl (fun _ => rfl) | exact CleanP.lst2 rfl (fun _ => rfl) (fun _ => rfl) | kernel_rfl | (dsimp only; omega) | (unfold roomOK; simp only [lns, ipRows_take]; omega)) | ((with_reducible apply Elem.lst); focus first | omega | (simp only [lns, ipRows_take]; omega)) | (apply CallN.mk (b0)) | (with_reducible first | apply Bif.T | apply Bif.F) | ((with_reducible first | apply Bif.dec | apply Bif.beq | apply Bif.bne) <;> intro h <;> (try simp only [lns, ipRows_take] at h) <;> (try first | (exfalso; omega) | (exact absurd True.intro h))) | (with_reducible first | apply Bif.not | apply Bif.and | apply Bif.or) | ((with_reducible apply Bif.mk) <;> intro h <;> (try first | (exfalso; omega) | (exact absurd True.intro h))) | (with_reducible apply Same.rfl) | (apply Same.int; focus first | rfl | omega | (dsimp only; omega) | (simp only [lns, ipRows_take]; omega)) | (apply Same.bool; focus (with_reducible rfl)) | (apply Same.ov; (focus first | rfl | omega | (simp only [lns, ipRows_take]; omega)); focus first | rfl | omega | (simp only [lns, ipRows_take]; first | done | omega)) | ((with_reducible apply Same.mk); focus first | omega | (simp only [lns, ipRows_take]; omega)) | (apply Same.rfl) | (with_reducible first | apply Alt.l | apply Sl3.l | apply Cut.l | apply Turn.l | apply GiveN.lend)) <;> conv => whnf) | fail)
    (refine ⟨⟨k + 1, by omega⟩, ?_⟩; (try dsimp only); conv => whnf); repeat' (first | with_reducible apply True.intro | ((with_reducible apply Turn.r); (conv => whnf)) | ((first | (with_reducible first | apply Nm.set _ (int_mk _) | apply Nm.snoc _ (int_mk _) | apply Nm.rep _ (int_mk _) | apply Nm.set _ (bool_mk _) | apply Nm.snoc _ (bool_mk _) | apply Nm.rep _ (bool_mk _) | apply Nm.set _ (rfl) | apply Nm.snoc _ (rfl) | apply Nm.rep _ (rfl)) | ((with_reducible apply Nm.mk); focus ((try simp only [lns, ipRows_take]); exact rfl)) | ((with_reducible first | apply Wr.i64 | apply Wr.u8 | apply Wr.u16 | apply Wr.u32 | apply Wr.u64); focus omega) | ((with_reducible apply Need.mk); focus first | omega | (simp only [lns, ipRows_take]; omega) | exact List.cons_ne_nil _ _ | exact CleanP.nil rfl | exact CleanP.cell rfl rfl | exact CleanP.lst rfl (fun _ => rfl) | exact CleanP.lst2 rfl (fun _ => rfl) (fun _ => rfl) | kernel_rfl | (dsimp only; omega) | (unfold roomOK; simp only [lns, ipRows_take]; omega)) | ((with_reducible apply Elem.lst); focus first | omega | (simp only [lns, ipRows_take]; omega)) | (with_reducible first | apply Bif.T | apply Bif.F) | ((with_reducible first | apply Bif.dec | apply Bif.beq | apply Bif.bne) <;> intro h <;> (try simp only [lns, ipRows_take] at h) <;> (try first | (exfalso; omega) | (exact absurd True.intro h))) | (with_reducible first | apply Bif.not | apply Bif.and | apply Bif.or) | ((with_reducible apply Bif.mk) <;> intro h <;> (try first | (exfalso; omega) | (exact absurd True.intro h))) | (with_reducible apply Same.rfl) | (apply Same.int; focus first | rfl | omega | (dsimp only; omega) | (simp only [lns, ipRows_take]; omega)) | (apply Same.bool; focus (with_reducible rfl)) | (apply Same.ov; (focus first | rfl | omega | (simp only [lns, ipRows_take]; omega)); focus first | rfl | omega | (simp only [lns, ipRows_take]; first | done | omega)) | ((with_reducible apply Same.mk); focus first | omega | (simp only [lns, ipRows_take]; omega)) | (apply Same.rfl) | (with_reducible first | apply Alt.l | apply Sl3.l | apply Cut.l | apply Turn.l | apply GiveN.lend)) <;> conv => whnf) | fail)
  · obtain rfl : k = 16 := by omega
    have hv4 := t4.valid
    repeat' (first | with_reducible apply True.intro | ((apply Elem.mk (adrV lnk) rfl); (conv => whnf)) | ((with_reducible apply Bif.tt hv4); (conv => whnf)) | ((refine Same.bool hv4 ?_); (conv => whnf)) | ((first | (with_reducible first | apply Nm.set _ (int_mk _) | apply Nm.snoc _ (int_mk _) | apply Nm.rep _ (int_mk _) | apply Nm.set _ (bool_mk _) | apply Nm.snoc _ (bool_mk _) | apply Nm.rep _ (bool_mk _) | apply Nm.set _ (rfl) | apply Nm.snoc _ (rfl) | apply Nm.rep _ (rfl)) | ((with_reducible apply Nm.mk); focus ((try simp only [lns, ipRows_take]); exact rfl)) | ((with_reducible first | apply Wr.i64 | apply Wr.u8 | apply Wr.u16 | apply Wr.u32 | apply Wr.u64); focus omega) | ((with_reducible apply Need.mk); focus first | omega | (simp only [lns, ipRows_take]; omega) | exact List.cons_ne_nil _ _ | exact CleanP.nil rfl | exact CleanP.cell rfl rfl | exact CleanP.lst rfl (fun _ => rfl) | exact CleanP.lst2 rfl (fun _ => rfl) (fun _ => rfl) | kernel_rfl | (dsimp only; omega) | (unfold roomOK; simp only [lns, ipRows_take]; omega)) | ((with_reducible apply Elem.lst); focus first | omega | (simp only [lns, ipRows_take]; omega)) | (apply CallN.mk (k_known)) | (apply CallN.mk (c1)) | (apply CallN.mk (b1)) | (apply CallN.mk (b2)) | (apply CallN.mk (b3)) | (apply CallN.mk (b4)) | (apply CallN.mk (k_rValid M _ (by omega))) | (with_reducible first | apply Bif.T | apply Bif.F) | ((with_reducible first | apply Bif.dec | apply Bif.beq | apply Bif.bne) <;> intro h <;> (try simp only [lns, ipRows_take] at h) <;> (try first | (exfalso; omega) | (exact absurd True.intro h) | (simp_all; done))) | (with_reducible first | apply Bif.not | apply Bif.and | apply Bif.or) | ((with_reducible apply Bif.mk) <;> intro h <;> (try first | (exfalso; omega) | (exact absurd True.intro h) | (simp_all; done))) | (with_reducible apply Same.rfl) | (apply Same.int; focus first | rfl | omega | (dsimp only; omega) | (simp only [lns, ipRows_take]; omega)) | (apply Same.bool; focus (with_reducible rfl)) | (apply Same.ov; (focus first | rfl | omega | (simp only [lns, ipRows_take]; omega)); focus first | rfl | omega | (simp only [lns, ipRows_take]; first | done | omega)) | ((with_reducible apply Same.mk); focus first | omega | (simp only [lns, ipRows_take]; omega)) | (apply Same.rfl) | (with_reducible first | apply Alt.l | apply Sl3.l | apply Cut.l | apply Turn.l | apply GiveN.lend)) <;> conv => whnf) | fail)
end Go.Fw
