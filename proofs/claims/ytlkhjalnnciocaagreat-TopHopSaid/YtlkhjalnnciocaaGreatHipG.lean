/- Made packets. -/
import Derived.Test.YtlkhjalnnciocaaGreatMkpB

namespace Go.Fw
open Go.Proofs
set_option maxHeartbeats 8000000
set_option maxRecDepth 8000
theorem share5 {α β γ δ ε : Type} {G : α → β → γ → δ → ε → Prop} (D : α → β → γ → Prop) {Q : Prop} (main : (∀ a b c d e, D a b c → G a b c d e) → Q) (key : ∀ a b c d e, D a b c → G a b c d e) : Q := main key
def preN : List UInt8 := [17, 17, 58, 59, 0]
def preH : List UInt8 := [1, 64, 255, 0, 63]
theorem preN_get {i : Nat} (h : i < 5) : (lst b8 preN)[i]? = some (b8 (gt preN i)) := by
  match i, h with
  | 0, _ | 1, _ | 2, _ | 3, _ | 4, _ => rfl
theorem preH_get {i : Nat} (h : i < 5) : (lst b8 preH)[i]? = some (b8 (gt preH i)) := by
  match i, h with
  | 0, _ | 1, _ | 2, _ | 3, _ | 4, _ => rfl
def pktN (n : UInt8) : SV := .agg [.v (.int .u8 0), .v (.int .u32 0), b8 n, .v (.int .u8 0), ipV ip0, ipV ip0, .v (.int .u16 0), .v (.int .u16 0), nilV]
def udpN (n : UInt8) : Int := if n = 17 then 8 else 0
theorem k_udpN (n : UInt8) : Con Tryz.prog 168 [pktN n] [] (int (udpN n)) [] := by
  refine spec_of_run ttok mixed (T0 := 39) (ts := [.tmp 2]) 6 rfl rfl rfl rfl (by simp) rfl ?_
  conv => whnf
  by_cases h : n = 17
  · have h17 : (n.toNat : Int) = 17 := by rw [h]; rfl
    rw [udpN, if_pos h]
    repeat' (first | with_reducible apply True.intro | ((first | ((with_reducible apply Bif.beq) <;> intro h <;> (try simp only [lns, beN_len, ipB_len] at h) <;> (try (exfalso; omega))) | (apply Same.int; focus rfl) | (with_reducible apply Frz.l)) <;> conv => whnf) | fail)
  · have h17 : ¬ (n.toNat : Int) = 17 := fun g => h (next17.1 g)
    rw [udpN, if_neg h]
    repeat' (first | with_reducible apply True.intro | ((first | ((with_reducible apply Bif.beq) <;> intro h <;> (try simp only [lns, beN_len, ipB_len] at h) <;> (try (exfalso; omega))) | (apply Same.int; focus rfl) | (with_reducible apply Frz.l)) <;> conv => whnf) | fail)
theorem k_sizeN (n : UInt8) : Con Tryz.prog 92 [pktN n] [] (int (40 + udpN n)) [] := by
  have c := k_udpN n
  have hu : 0 ≤ udpN n ∧ udpN n ≤ 8 := by unfold udpN; split <;> decide
  refine spec_of_run ttok mixed (T0 := 7) (ts := [.tmp 2]) 10 rfl rfl rfl rfl (by simp) rfl ?_
  conv => whnf
  repeat' (first | with_reducible apply True.intro | ((apply Same.int (by omega)); (conv => whnf)) | ((first | ((with_reducible apply Wr.i64); focus omega) | ((with_reducible apply Need.mk); focus kernel_rfl) | (apply CallN.mk (c)) | (with_reducible apply Frz.l)) <;> conv => whnf) | fail)
theorem k_portN (l : List Int) (k : Int) (hk : 0 ≤ k) (hl : l.length ≤ 400) :
    ∃ r hp', (∃ (x : Nat) (k' : Int), r = .v (.int .u16 (x : Int)) ∧ hp' = [.cells (tape l k')] ∧ x ≤ 65535 ∧ 0 ≤ k') ∧ Con Tryz.prog 90 [.pb 0 []] [.cells (tape l k)] r hp' := by
  obtain ⟨r, hp', ⟨x, k', rfl, rfl, hx, h⟩, c⟩ := k_port l k hk hl
  exact ⟨_, _, ⟨x.toNat, k', by rw [show ((x.toNat : Nat) : Int) = x by omega], rfl, by omega, h⟩, c⟩
theorem gt_setIP0 (a : IP) : gt (setIP a 0 32 (by decide)).1 0 = 32 := by
  show gt (a.1.set 0 32) 0 = 32
  rw [gt_set (by rw [a.2.1]; decide), if_pos rfl]
theorem mkVP {c8 : UInt8} {fN : Nat} {nx hy : UInt8} {src d : IP} {sp dp : Nat} {b : List UInt8} (hf : fN ≤ 1048575) (hs : gt src.1 0 ≠ 255) (hb : 40 + udpN nx + b.length ≤ 1280) (h1 : sp ≤ 65535) (h2 : dp ≤ 65535) (hp : nx ≠ 17 → sp = 0 ∧ dp = 0) : VP ⟨c8, fN, nx, hy, src, d, sp, dp, b⟩ :=
  ⟨hf, hs, by
    show (if nx = 17 then 48 else 40) + b.length ≤ 1280
    unfold udpN at hb
    split at hb
    · rename_i g; rw [if_pos g]; omega
    · rename_i g; rw [if_neg g]; omega, h1, h2, hp⟩
theorem k_mPacket (l : List Int) (k : Int) (e0 e1 : Nat) (he0 : e0 ≤ 18446744073709551615) (he1 : e1 ≤ 18446744073709551615) (hk : 0 ≤ k) (hl : l.length ≤ 400) :
    ∃ r hp', (∃ (p : Pkt) (k' : Int), r = pktV p ∧ hp' = [.cells (tape l k')] ∧ VP p ∧ 0 ≤ k') ∧ Con Tryz.prog 40 [.pb 0 [], lnkV e0, lnkV e1] [.cells (tape l k)] r hp' := by
  refine spec_of_runR ttok mixed (T0 := 18086983725220087) (ts := [.cell 6 107]) 67 rfl rfl rfl rfl (by simp) rfl ?_
  conv => whnf
  repeat' (first | ((apply Elem.mk _ (show (lst b8 preN)[x.toNat]? = _ from preN_get (by omega))); (conv => whnf)) | ((apply Elem.mk _ (show (lst b8 preH)[y.toNat]? = _ from preH_get (by omega))); (conv => whnf)) | ((first | ((with_reducible apply Nm.mk); focus ((try simp only [lns, beN_len, ipB_len]); exact rfl)) | ((with_reducible apply Need.mk); focus first | omega | kernel_rfl) | (refine CallN.ex (k_tape_Next l _ 5 hk hl (by omega)) ?_; rintro _ _ ⟨x, k1, rfl, rfl, h1, h2, h3⟩) | (refine CallN.ex (k_tape_Next l _ 5 h3 hl (by omega)) ?_; rintro _ _ ⟨y, k2, rfl, rfl, g1, g2, g3⟩) | (refine CallN.ex (k_mIP l _ e0 he0 g3 hl) ?_; rintro _ _ ⟨s, k3, rfl, rfl, j3⟩) | (refine CallN.ex (k_mIP l _ e1 he1 j3 hl) ?_; rintro _ _ ⟨d, k4, rfl, rfl, q3⟩) | (refine CallN.ex (k_Bytes l _ 12 q3 hl (by decide)) ?_; rintro _ _ ⟨b, k5, rfl, rfl, hb, hk5⟩) | (with_reducible apply Frz.l)) <;> conv => whnf) | fail)
  generalize gt preN x.toNat = nx
  generalize gt preH y.toNat = hy
  refine share5 (δ := Bool) (ε := Bool) (G := ?G) (fun (c f kk : Int) => (0 ≤ c ∧ c ≤ 255) ∧ (0 ≤ f ∧ f ≤ 1048575) ∧ 0 ≤ kk) ?main ?key
  case main =>
    intro key
    repeat' (first | ((first | ((with_reducible first | apply Wr.u8 | apply Wr.u32); focus omega) | (refine CallN.ex (k_tape_Bool l _ 3 (by omega) hl (by omega)) ?_; rintro _ _ ⟨w, k6, rfl, rfl, m3⟩) | (refine CallN.ex (k_tape_Next l _ 256 (by omega) hl (by omega)) ?_; rintro _ _ ⟨c, k7, rfl, rfl, m4, m5, m6⟩) | (refine CallN.ex (k_tape_Next l _ 1048576 (by omega) hl (by omega)) ?_; rintro _ _ ⟨f, k8, rfl, rfl, m7, m8, m9⟩) | ((with_reducible apply Bif.mk) <;> intro h) | (with_reducible apply Frz.l)) <;> conv => whnf) | fail)
    · rename_i w1 _ _ _
      exact key c f k8 w1 w ⟨⟨by omega, by omega⟩, ⟨by omega, by omega⟩, by omega⟩
    · rename_i w1 _ _ _
      exact key c 0 k6 w1 w ⟨⟨by omega, by omega⟩, ⟨by omega, by omega⟩, by omega⟩
    · rename_i w1 _ _ _
      exact key 0 f k8 w1 w ⟨⟨by omega, by omega⟩, ⟨by omega, by omega⟩, by omega⟩
    · rename_i w1 _ _ _
      exact key 0 0 k6 w1 w ⟨⟨by omega, by omega⟩, ⟨by omega, by omega⟩, by omega⟩
  case key =>
    rintro c f kk w1 w2 ⟨hc, hf, hkk⟩
    obtain ⟨c8, rfl⟩ : ∃ c8 : UInt8, c = (c8.toNat : Int) := ⟨UInt8.ofNat c.toNat, by rw [UInt8.toNat_ofNat', Nat.mod_eq_of_lt (by omega)]; omega⟩
    obtain ⟨fN, rfl⟩ : ∃ fN : Nat, f = (fN : Int) := ⟨f.toNat, by omega⟩
    have cm := k_rMulti s
    have cz := k_sizeN nx
    have ls := s.2.1
    have hu : udpN nx = 8 ∧ nx = 17 ∨ udpN nx = 0 ∧ nx ≠ 17 := by unfold udpN; by_cases g : nx = 17 <;> simp [g]
    have hw : ∀ z : Int, 0 ≤ z → z < 2 → IntKind.wrap .i64 (1280 - (40 + udpN nx) - z) = (((1240 - (udpN nx).toNat - z.toNat : Nat)) : Int) := fun z h1 h2 => by rw [wrap64_id (by omega)]; omega
    repeat' (first | ((apply Wr.eq (hw _ hz1 hz2)); (conv => whnf)) | ((first | ((with_reducible apply Nm.mk); focus ((try simp only [lns, beN_len, ipB_len]); exact rfl)) | ((with_reducible apply Wr.i64); focus omega) | ((with_reducible apply Need.mk); focus omega) | (apply CallN.mk (cm)) | (apply CallN.mk (cz)) | (refine CallN.ex (k_portN l _ hkk hl) ?_; rintro _ _ ⟨sp, kp, rfl, rfl, hsp, hkp⟩) | (refine CallN.ex (k_portN l _ hkp hl) ?_; rintro _ _ ⟨dp, kq, rfl, rfl, hdp, hkq⟩) | (refine CallN.ex (k_tape_Bool l _ 12 (by omega) hl (by omega)) ?_; rintro _ _ ⟨w, kr, rfl, rfl, hkr⟩) | (refine CallN.ex (k_tape_Next l _ 2 hkr hl (by omega)) ?_; rintro _ _ ⟨z, ks, rfl, rfl, hz1, hz2, hks⟩) | (refine CallN.ex (k_Fill l _ (1240 - (udpN nx).toNat - z.toNat) hks hl (by omega)) ?_; rintro _ _ ⟨B, kt, rfl, rfl, hB, hkt⟩) | ((with_reducible first | apply Bif.dec | apply Bif.beq) <;> intro h <;> (try simp only [lns, beN_len, ipB_len] at h)) | ((with_reducible apply Bif.mk) <;> intro h) | (with_reducible apply Frz.l)) <;> conv => whnf) | fail)
    · (refine ⟨_, _, ⟨⟨c8, fN, nx, hy, setIP s 0 32 (by decide), d, sp, dp, B⟩, kt, rfl, rfl, mkVP (by omega) (by rw [gt_setIP0]; decide) (by omega) (by omega) (by omega) (fun g => absurd (next17.1 (by assumption)) g), by omega⟩, ?_⟩; conv => whnf); repeat' (first | with_reducible apply True.intro | ((first | (with_reducible apply Same.rfl) | (apply Same.int; focus rfl) | (apply Same.rfl) | (with_reducible apply Frz.l)) <;> conv => whnf) | fail)
    · (refine ⟨_, _, ⟨⟨c8, fN, nx, hy, setIP s 0 32 (by decide), d, sp, dp, b⟩, kr, rfl, rfl, mkVP (by omega) (by rw [gt_setIP0]; decide) (by omega) (by omega) (by omega) (fun g => absurd (next17.1 (by assumption)) g), by omega⟩, ?_⟩; conv => whnf); repeat' (first | with_reducible apply True.intro | ((first | (with_reducible apply Same.rfl) | (apply Same.int; focus rfl) | (apply Same.rfl) | (with_reducible apply Frz.l)) <;> conv => whnf) | fail)
    · (refine ⟨_, _, ⟨⟨c8, fN, nx, hy, setIP s 0 32 (by decide), d, 0, 0, B⟩, kt, rfl, rfl, mkVP (by omega) (by rw [gt_setIP0]; decide) (by omega) (by omega) (by omega) (fun _ => ⟨rfl, rfl⟩), by omega⟩, ?_⟩; conv => whnf); repeat' (first | with_reducible apply True.intro | ((first | (with_reducible apply Same.rfl) | (apply Same.int; focus rfl) | (apply Same.rfl) | (with_reducible apply Frz.l)) <;> conv => whnf) | fail)
    · (refine ⟨_, _, ⟨⟨c8, fN, nx, hy, setIP s 0 32 (by decide), d, 0, 0, b⟩, kr, rfl, rfl, mkVP (by omega) (by rw [gt_setIP0]; decide) (by omega) (by omega) (by omega) (fun _ => ⟨rfl, rfl⟩), by omega⟩, ?_⟩; conv => whnf); repeat' (first | with_reducible apply True.intro | ((first | (with_reducible apply Same.rfl) | (apply Same.int; focus rfl) | (apply Same.rfl) | (with_reducible apply Frz.l)) <;> conv => whnf) | fail)
    · (refine ⟨_, _, ⟨⟨c8, fN, nx, hy, s, d, sp, dp, B⟩, kt, rfl, rfl, mkVP (by omega) (by assumption) (by omega) (by omega) (by omega) (fun g => absurd (next17.1 (by assumption)) g), by omega⟩, ?_⟩; conv => whnf); repeat' (first | with_reducible apply True.intro | ((first | (with_reducible apply Same.rfl) | (apply Same.int; focus rfl) | (with_reducible apply Frz.l)) <;> conv => whnf) | fail)
    · (refine ⟨_, _, ⟨⟨c8, fN, nx, hy, s, d, sp, dp, b⟩, kr, rfl, rfl, mkVP (by omega) (by assumption) (by omega) (by omega) (by omega) (fun g => absurd (next17.1 (by assumption)) g), by omega⟩, ?_⟩; conv => whnf); repeat' (first | with_reducible apply True.intro | ((first | (with_reducible apply Same.rfl) | (apply Same.int; focus rfl) | (with_reducible apply Frz.l)) <;> conv => whnf) | fail)
    · (refine ⟨_, _, ⟨⟨c8, fN, nx, hy, s, d, 0, 0, B⟩, kt, rfl, rfl, mkVP (by omega) (by assumption) (by omega) (by omega) (by omega) (fun _ => ⟨rfl, rfl⟩), by omega⟩, ?_⟩; conv => whnf); repeat' (first | with_reducible apply True.intro | ((first | (with_reducible apply Same.rfl) | (apply Same.int; focus rfl) | (with_reducible apply Frz.l)) <;> conv => whnf) | fail)
    · (refine ⟨_, _, ⟨⟨c8, fN, nx, hy, s, d, 0, 0, b⟩, kr, rfl, rfl, mkVP (by omega) (by assumption) (by omega) (by omega) (by omega) (fun _ => ⟨rfl, rfl⟩), by omega⟩, ?_⟩; conv => whnf); repeat' (first | with_reducible apply True.intro | ((first | (with_reducible apply Same.rfl) | (apply Same.int; focus rfl) | (with_reducible apply Frz.l)) <;> conv => whnf) | fail)
end Go.Fw

/- IPHC: the first byte and the fields, written. -/
namespace Go.Fw
open Go.Proofs
set_option maxHeartbeats 8000000
set_option maxRecDepth 8000
def fF (p : Pkt) : Int := if (p.cls.toNat : Int) ≠ 0 then (if (p.flow : Int) ≠ 0 then 0 else 2) else (if (p.flow : Int) ≠ 0 then 1 else 3)
def hF (p : Pkt) : Int := if (p.hops.toNat : Int) = 1 then 1 else if (p.hops.toNat : Int) = 64 then 2 else if (p.hops.toNat : Int) = 255 then 3 else 0
def uF (p : Pkt) : Int := if (p.next.toNat : Int) = 17 then 4 else 0
def firstH (p : Pkt) : Int := 96 + 8 * fF p + uF p + hF p
def inlA (p : Pkt) : List UInt8 := if (p.cls.toNat : Int) ≠ 0 then (if (p.flow : Int) ≠ 0 then [p.cls] ++ beN 3 p.flow else [p.cls]) else (if (p.flow : Int) ≠ 0 then beN 3 p.flow else [])
def inlB (p : Pkt) : List UInt8 := if (p.next.toNat : Int) = 17 then [] else [p.next]
def inlC (p : Pkt) : List UInt8 := if (p.hops.toNat : Int) = 1 then [] else if (p.hops.toNat : Int) = 64 then [] else if (p.hops.toNat : Int) = 255 then [] else [p.hops]
def inlF (p : Pkt) : List UInt8 := inlA p ++ inlB p ++ inlC p
def Fld (p : Pkt) (r : SV) (hp' : List OB) : Prop := (r = .tup [int (firstH p), nilV] ∧ hp' = [] ∧ inlF p = []) ∨ (r = .tup [int (firstH p), .ov 1 0 0 (inlF p).length] ∧ hp' = [.arr none 1 (lst b8 (inlF p))])
theorem k_fieldsO (p : Pkt) (hv : VP p) : ∃ r hp', Fld p r hp' ∧ Con Tryz.prog 148 [pktV p] [] r hp' := by
  have hfl := hv.flow
  have a0 := k_Append0 p.flow 3 (by decide)
  have a1 := fun t => k_Append [p.cls] p.flow 3 t (by decide) (by show 1 ≤ 1000000; decide)
  refine spec_of_runR ttok mixed (T0 := 189293023505416447) (ts := [.tmp 2, .tmp 3]) 70 rfl rfl rfl rfl (by simp) rfl ?_
  conv => whnf
  repeat' (first | ((first | (with_reducible apply Nm.snoc _ (rfl)) | ((with_reducible apply Nm.mk); focus ((try simp only [lns, beN_len, ipB_len]); exact rfl)) | ((with_reducible first | apply Wr.i64 | apply Wr.u64); focus omega) | ((with_reducible apply Need.mk); focus first | (simp only [lns, beN_len, ipB_len]; omega) | exact CleanP.lst rfl (fun _ => rfl) | (unfold roomOK; simp only [lns, beN_len, ipB_len]; omega)) | (apply CallN.mk (k_iflag _ 4)) | (apply CallN.mk (a0)) | (apply CallN.mk (a1 _)) | (with_reducible first | apply Bif.T | apply Bif.F) | ((with_reducible first | apply Bif.beq | apply Bif.bne) <;> intro h <;> (try simp only [lns, beN_len, ipB_len] at h) <;> (try (exfalso; omega))) | (with_reducible first | apply Alt.l | apply GiveN.lend) | (with_reducible apply Frz.l)) <;> conv => whnf) | fail)
  all_goals first
    | ((apply Ex2.mk (.tup [int _, .ov 1 0 0 _]) ([.arr none 1 _])); (focus ((conv => whnf); repeat' (first | with_reducible apply True.intro | ((first | (with_reducible apply Same.rfl) | (apply Same.int; focus rfl) | (with_reducible apply Cut.l) | (with_reducible apply Frz.l)) <;> conv => whnf) | fail))); exact .inr ⟨by simp only [firstH, fF, hF, uF, inlF, inlA, inlB, inlC, ne_eq, not_false_eq_true, not_true_eq_false, if_true, if_false, reduceIte, beq_iff_eq, *]; first | done | rfl | simp [beN_len], by simp only [firstH, fF, hF, uF, inlF, inlA, inlB, inlC, ne_eq, not_false_eq_true, not_true_eq_false, if_true, if_false, reduceIte, beq_iff_eq, *]; first | done | rfl | simp [lst, reps]⟩)
    | ((apply Ex2.mk (.tup [int _, nilV]) ([])); (focus ((conv => whnf); repeat' (first | ((with_reducible apply Frz.l) <;> conv => whnf) | fail))); exact .inl ⟨by simp only [firstH, fF, hF, uF, inlF, inlA, inlB, inlC, ne_eq, not_false_eq_true, not_true_eq_false, if_true, if_false, reduceIte, beq_iff_eq, *]; first | done | rfl, rfl, by simp only [firstH, fF, hF, uF, inlF, inlA, inlB, inlC, ne_eq, not_false_eq_true, not_true_eq_false, if_true, if_false, reduceIte, beq_iff_eq, *]; first | done | rfl⟩)
    | skip
theorem k_fields (p : Pkt) (hv : VP p) : Con Tryz.prog 148 [pktV p] [] (.tup [int (firstH p), bys (inlF p)]) [] := by
  obtain ⟨r, hp', h, hc⟩ := k_fieldsO p hv
  rcases h with ⟨rfl, rfl, e⟩ | ⟨rfl, rfl⟩
  · rw [e]
    exact hc.cl (.tup (.cons (.wk rfl .rfl) (.cons (.wk rfl .nilS) .nil))) rfl
  · exact hc.cl (.tup (.cons (.wk rfl .rfl) (.cons (.all rfl rfl) .nil))) rfl
theorem fF_rng (p : Pkt) : 0 ≤ fF p ∧ fF p ≤ 3 := by unfold fF; split <;> split <;> decide
theorem hF_rng (p : Pkt) : 0 ≤ hF p ∧ hF p ≤ 3 := by
  unfold hF; split
  · decide
  · split
    · decide
    · split <;> decide
theorem firstH_rng (p : Pkt) : 96 ≤ firstH p ∧ firstH p ≤ 127 := by
  have h1 := fF_rng p
  have h2 := hF_rng p
  unfold firstH uF; split <;> omega
theorem inlF_len (p : Pkt) : (inlF p).length ≤ 6 := by
  have h1 : (inlA p).length ≤ 4 := by unfold inlA; split <;> split <;> simp [beN_len]
  have h2 : (inlB p).length ≤ 1 := by unfold inlB; split <;> simp
  have h3 : (inlC p).length ≤ 1 := by
    unfold inlC; split
    · simp
    · split
      · simp
      · split <;> simp
  rw [inlF, List.length_append, List.length_append]; omega
end Go.Fw

/- IPHC: the compressed header of any packet. -/
namespace Go.Fw
open Go.Proofs
set_option maxHeartbeats 8000000
set_option maxRecDepth 8000
theorem k_iEncG (p : Pkt) (e0 e1 : Nat) (l : List Cxt) (now : Int) (h : VCx l) (hn : isTm now) (hl : l.length ≤ 1000) (hv : VP p) (hm : gt p.dst.1 0 = 255) (first : Int) (inl : List UInt8) (f g : Cpa) (hgc : g.ctx = false)
    (h1 : 0 ≤ first ∧ first ≤ 255) (h2 : 0 ≤ f.id ∧ f.id ≤ 15) (h3 : 0 ≤ g.id ∧ g.id ≤ 15) (h4 : 0 ≤ f.mode ∧ f.mode ≤ 3) (h5 : 0 ≤ g.mode ∧ g.mode ≤ 3) (h6 : inl.length ≤ 100) (h7 : f.bytes.length ≤ 16) (h8 : g.bytes.length ≤ 16)
    (cf : Con Tryz.prog 148 [pktV p] [] (.tup [int first, bys inl]) [])
    (u0 : Con Tryz.prog 149 [ipV p.src, lnkV e0, bool true, cxts l, int now] [] (cpaV f) [])
    (u1 : Con Tryz.prog 151 [ipV p.dst] [] (cpaV g) []) :
    Con Tryz.prog 81 [pktV p, lnkV e0, lnkV e1, cxts l, int now] [] (.tup [.ov 1 0 0 (iphcM first true f g inl).length, int 0]) [.arr none 1 (lst b8 (iphcM first true f g inl))] := by
  have cv := k_pValid p hv
  have cc := k_icheck e0 e1 l now h hn hl
  have cm := k_aMulti p.dst
  rw [decide_eq_true hm] at cm
  have i8 := k_iflag true 8
  have hctx := hgc
  have hsec : 0 ≤ secF true f g ∧ secF true f g ≤ 255 := by unfold secF; rw [hgc]; split <;> split <;> split <;> split <;> omega
  have hids : 0 ≤ idsF f g ∧ idsF f g ≤ 255 := by unfold idsF; omega
  have e1 : SV.v (.int .u8 first) = b8 (UInt8.ofNat first.toNat) := u8_nat h1
  have e2 : SV.v (.int .u8 (secF true f g)) = b8 (UInt8.ofNat (secF true f g).toNat) := u8_nat hsec
  have e3 : SV.v (.int .u8 (idsF f g)) = b8 (UInt8.ofNat (idsF f g).toNat) := u8_nat hids
  have nA : [SV.v (.int .u8 first), SV.v (.int .u8 (secF true f g))] ++ [SV.v (.int .u8 (idsF f g))] = lst b8 ([UInt8.ofNat first.toNat, UInt8.ofNat (secF true f g).toNat] ++ [UInt8.ofNat (idsF f g).toNat]) := by rw [e1, e2, e3]; rfl
  have nB : [SV.v (.int .u8 first), SV.v (.int .u8 (secF true f g))] ++ lst b8 inl = lst b8 ([UInt8.ofNat first.toNat, UInt8.ofNat (secF true f g).toNat] ++ inl) := by rw [e1, e2]; rfl
  unfold iphcM idsB
  by_cases hi : idsF f g ≠ 0
  · rw [if_pos hi]
    refine spec_of_run ttok mixed (T0 := 1237940039285450644727528703) (ts := [.tmp 10, .tmp 11]) 107 rfl rfl rfl rfl (by simp) rfl ?_
    conv => whnf
    repeat' (first | with_reducible apply True.intro | ((apply Nm.mk nA); (conv => whnf)) | ((with_reducible apply Nm.mk (lst_app _ _)); (conv => whnf)) | ((apply Same.mk rfl); (conv => whnf)) | ((apply Same.mk); (focus (simp only [List.length_append, List.length_cons, List.length_nil]; done)); (conv => whnf)) | ((first | ((with_reducible apply Nm.mk); focus ((try simp only [lns, beN_len, ipB_len]); exact rfl)) | ((with_reducible first | apply Wr.i64 | apply Wr.u8); focus omega) | ((with_reducible apply Need.mk); focus first | (simp only [lns, beN_len, ipB_len]; omega) | kernel_rfl | (unfold roomOK; simp only [lns, beN_len, ipB_len]; omega)) | (apply CallN.mk (cv)) | (apply CallN.mk (cc)) | (apply CallN.mk (cf)) | (apply CallN.mk (u0)) | (apply CallN.mk (u1)) | (apply CallN.mk (cm)) | (apply CallN.mk (i8)) | (apply CallN.mk (k_iflag _ _)) | (with_reducible apply Bif.T) | ((with_reducible apply Bif.bne) <;> intro h <;> (try simp only [lns, beN_len, ipB_len] at h) <;> (try first | (exfalso; omega) | (exact absurd h hi))) | (with_reducible apply Bif.not) | (with_reducible first | apply Alt.l | apply Cut.l) | (with_reducible apply Frz.l)) <;> conv => whnf) | fail)
  · rw [if_neg hi, List.append_nil]
    refine spec_of_run ttok mixed (T0 := 1237940039285450644727528703) (ts := [.tmp 10, .tmp 11]) 107 rfl rfl rfl rfl (by simp) rfl ?_
    conv => whnf
    repeat' (first | with_reducible apply True.intro | ((apply Nm.mk nB); (conv => whnf)) | ((with_reducible apply Nm.mk (lst_app _ _)); (conv => whnf)) | ((apply Same.mk rfl); (conv => whnf)) | ((apply Same.mk); (focus (simp only [List.length_append, List.length_cons, List.length_nil]; done)); (conv => whnf)) | ((first | ((with_reducible apply Nm.mk); focus ((try simp only [lns, beN_len, ipB_len]); exact rfl)) | ((with_reducible first | apply Wr.i64 | apply Wr.u8); focus omega) | ((with_reducible apply Need.mk); focus first | kernel_rfl | (unfold roomOK; simp only [lns, beN_len, ipB_len]; omega)) | (apply CallN.mk (cv)) | (apply CallN.mk (cc)) | (apply CallN.mk (cf)) | (apply CallN.mk (u0)) | (apply CallN.mk (u1)) | (apply CallN.mk (cm)) | (apply CallN.mk (i8)) | (apply CallN.mk (k_iflag _ _)) | (with_reducible apply Bif.T) | ((with_reducible apply Bif.bne) <;> intro h <;> (try simp only [lns, beN_len, ipB_len] at h) <;> (try first | (exfalso; omega) | (exact absurd h hi))) | (with_reducible apply Bif.not) | (with_reducible first | apply Alt.l | apply Cut.l) | (with_reducible apply Frz.l)) <;> conv => whnf) | fail)
def mcP (p : Pkt) : Bool := decide (gt p.dst.1 0 = 255)
def srcF (p : Pkt) (e : Nat) (l : List Cxt) (now : Int) : Cpa := uniF p.src e true l now
def dstF (p : Pkt) (e : Nat) (l : List Cxt) (now : Int) : Cpa := if gt p.dst.1 0 = 255 then groupF p.dst else uniF p.dst e false l now
noncomputable def hdM (p : Pkt) (e0 e1 : Nat) (l : List Cxt) (now : Int) : List UInt8 := iphcM (firstH p) (mcP p) (srcF p e0 l now) (dstF p e1 l now) (inlF p)
theorem groupF_ctx (a : IP) : (groupF a).ctx = false := by
  unfold groupF; split
  · rfl
  · split
    · rfl
    · split <;> rfl
theorem k_iEnc (p : Pkt) (e0 e1 : Nat) (he0 : e0 ≤ 18446744073709551615) (he1 : e1 ≤ 18446744073709551615) (l : List Cxt) (now : Int) (h : VCx l) (hn : isTm now) (hl : l.length ≤ 1000) (hv : VP p) :
    Con Tryz.prog 81 [pktV p, lnkV e0, lnkV e1, cxts l, int now] [] (.tup [.ov 1 0 0 (hdM p e0 e1 l now).length, int 0]) [.arr none 1 (lst b8 (hdM p e0 e1 l now))] := by
  have u0 := k_uni p.src e0 true l now h hn hl he0
  have o0 : OkC (uniF p.src e0 true l now) := uniF_ok h
  have hf := firstH_rng p
  have hi := inlF_len p
  unfold hdM mcP srcF dstF
  by_cases hm : gt p.dst.1 0 = 255
  · have o1 := groupF_ok p.dst
    rw [if_pos hm, decide_eq_true hm]
    exact k_iEncG p e0 e1 l now h hn hl hv hm _ _ _ _ (groupF_ctx _) (by omega) o0.id o1.id o0.mode o1.mode (by omega) o0.len o1.len (k_fields p hv) u0 (k_group p.dst)
  · have o1 : OkC (uniF p.dst e1 false l now) := uniF_ok h
    rw [if_neg hm, decide_eq_false hm]
    exact k_iEncF p e0 e1 l now h hn hl hv hm _ _ _ _ (by omega) o0.id o1.id o0.mode o1.mode (by omega) o0.len o1.len (k_fields p hv) u0 (k_uni p.dst e1 false l now h hn hl he1)
end Go.Fw

/- IPHC: the fields, read. -/
namespace Go.Fw
open Go.Proofs
set_option maxHeartbeats 8000000
set_option maxRecDepth 8000
/-- A number is taken, or is not there. -/
theorem k_takeW (w : Bool) (m : Nat) (x : Int) (b : List UInt8) (a1 : Nat) (v : Nat) (L Y : List UInt8) (hb : b.length ≤ 10000) (hd : b.drop a1 = L ++ Y) (hm : 1 ≤ m ∧ m ≤ 8) (h1 : w = true → L.length = m ∧ beV L = v) (h2 : w = false → L = [] ∧ x = (v : Int)) :
    ConK Tryz.prog 200 [bool w, int (m : Int), q64 x, .pb 0 [], .pb 1 []] [.cells (int 0), .cells (.pb 2 []), .cells (rdV b a1)] (q64 (v : Int)) [.cells (int 0), .cells (.pb 2 []), .cells (rdV b (a1 + L.length))] := by
  cases w
  · obtain ⟨rfl, rfl⟩ := h2 rfl
    exact k_takeNo m v b a1
  · obtain ⟨g1, g2⟩ := h1 rfl
    have hl := congrArg List.length hd
    rw [List.length_drop, List.length_append] at hl
    have c := k_takeYes (m : Int) x b a1 m rfl hm hb (by omega)
    rw [hd, List.take_left' g1, g2] at c
    rw [g1]; exact c
def clsB (p : Pkt) : List UInt8 := if (p.cls.toNat : Int) ≠ 0 then [p.cls] else []
def flwB (p : Pkt) : List UInt8 := if (p.flow : Int) ≠ 0 then beN 3 p.flow else []
theorem inlA_eq (p : Pkt) : inlA p = clsB p ++ flwB p := by unfold inlA clsB flwB; split <;> split <;> simp
def hopV (p : Pkt) : Nat := if hF p = 1 then 1 else if hF p = 2 then 64 else if hF p = 3 then 255 else 0
def eF (first : Int) : Int := IntKind.wrap .i64 (BitVec.ofInt (IntKind.bits .i64) (first.fdiv (2 ^ min (Int.toNat 3) (IntKind.bits .i64))) &&& BitVec.ofInt (IntKind.bits .i64) 3).toNat
def eH (first : Int) : Int := IntKind.wrap .i64 (BitVec.ofInt (IntKind.bits .i64) first &&& BitVec.ofInt (IntKind.bits .i64) 3).toNat
def eU (first : Int) : Int := IntKind.wrap .i64 (BitVec.ofInt (IntKind.bits .i64) first &&& BitVec.ofInt (IntKind.bits .i64) 4).toNat
theorem first_all : ∀ (f : Fin 4) (u : Fin 2) (h : Fin 4), eF (96 + 8 * (f.1 : Int) + 4 * (u.1 : Int) + (h.1 : Int)) = (f.1 : Int) ∧ eH (96 + 8 * (f.1 : Int) + 4 * (u.1 : Int) + (h.1 : Int)) = (h.1 : Int) ∧ eU (96 + 8 * (f.1 : Int) + 4 * (u.1 : Int) + (h.1 : Int)) = 4 * (u.1 : Int) := by decide +kernel
theorem first_bits (p : Pkt) : eF (firstH p) = fF p ∧ eH (firstH p) = hF p ∧ eU (firstH p) = uF p := by
  have h1 := fF_rng p
  have h2 := hF_rng p
  have key := fun u : Fin 2 => first_all ⟨(fF p).toNat, by omega⟩ u ⟨(hF p).toNat, by omega⟩
  have e1 : (((fF p).toNat : Nat) : Int) = fF p := by omega
  have e2 : (((hF p).toNat : Nat) : Int) = hF p := by omega
  unfold firstH uF
  split
  · have := key 1; simp only [e1, e2] at this; exact this
  · have := key 0; simp only [e1, e2] at this; simpa using this
def pktF (p : Pkt) : SV := .agg [b8 p.cls, .v (.int .u32 (p.flow : Int)), b8 p.next, b8 p.hops, ipV ip0, ipV ip0, .v (.int .u16 0), .v (.int .u16 0), nilV]
theorem hopV_get (p : Pkt) : ([SV.v (.int .u64 0), .v (.int .u64 1), .v (.int .u64 64), .v (.int .u64 255)] : List SV)[(hF p).toNat]? = some (.v (.int .u64 (hopV p : Int))) := by
  unfold hopV
  have := hF_rng p
  have h : hF p = 0 ∨ hF p = 1 ∨ hF p = 2 ∨ hF p = 3 := by omega
  rcases h with h | h | h | h <;> rw [h] <;> rfl
theorem k_rfields (p : Pkt) (hv : VP p) (b : List UInt8) (at_ : Nat) (X : List UInt8) (hd : b.drop at_ = inlF p ++ X) (hb : b.length ≤ 10000) :
    Con Tryz.prog 158 [.pb 0 [], int (firstH p)] [.cells (rdV b at_)] (.tup [pktF p, int 0]) [.cells (rdV b (at_ + (inlF p).length))] := by
  obtain ⟨eF1, eH1, eU1⟩ := first_bits p
  have hr := firstH_rng p
  have hfr := fF_rng p
  have hhr := hF_rng p
  have hfl := hv.flow
  have hc8 := p.cls.toNat_lt
  have hn8 := p.next.toNat_lt
  have hh8 := p.hops.toNat_lt
  have d1 : b.drop at_ = clsB p ++ (flwB p ++ (inlB p ++ (inlC p ++ X))) := by rw [hd, inlF, inlA_eq]; simp
  have d2 : b.drop (at_ + (clsB p).length) = flwB p ++ (inlB p ++ (inlC p ++ X)) := by rw [← List.drop_drop, d1]; exact List.drop_left
  have d3 : b.drop (at_ + (clsB p).length + (flwB p).length) = inlB p ++ (inlC p ++ X) := by rw [← List.drop_drop, d2]; exact List.drop_left
  have d4 : b.drop (at_ + (clsB p).length + (flwB p).length + (inlB p).length) = inlC p ++ X := by rw [← List.drop_drop, d3]; exact List.drop_left
  have ef : ((p.cls.toNat : Int) ≠ 0 ↔ fF p = 0 ∨ fF p = 2) ∧ ((p.flow : Int) ≠ 0 ↔ fF p = 0 ∨ fF p = 1) := by unfold fF; split <;> split <;> simp_all
  have eu : (p.next.toNat : Int) = 17 ↔ uF p ≠ 0 := by unfold uF; split <;> simp_all
  have tC := fun (w : Bool) (hw : w = decide (fF p = 0 ∨ fF p = 2)) => k_takeW w 1 0 b at_ p.cls.toNat (clsB p) _ hb d1 (by decide)
    (fun g => by
      have : (p.cls.toNat : Int) ≠ 0 := ef.1.2 (of_decide_eq_true (hw.symm.trans g))
      rw [clsB, if_pos this]; exact ⟨rfl, beV1 _⟩)
    (fun g => by
      have : ¬ (p.cls.toNat : Int) ≠ 0 := fun q => of_decide_eq_false (hw.symm.trans g) (ef.1.1 q)
      rw [clsB, if_neg this]; exact ⟨rfl, by omega⟩)
  have tF := fun (w : Bool) (hw : w = decide (fF p = 0 ∨ fF p = 1)) => k_takeW w 3 0 b _ p.flow (flwB p) _ hb d2 (by decide)
    (fun g => by
      have : (p.flow : Int) ≠ 0 := ef.2.2 (of_decide_eq_true (hw.symm.trans g))
      rw [flwB, if_pos this]; exact ⟨beN_len _ _, beV_beN 3 _ (by omega)⟩)
    (fun g => by
      have : ¬ (p.flow : Int) ≠ 0 := fun q => of_decide_eq_false (hw.symm.trans g) (ef.2.1 q)
      rw [flwB, if_neg this]; exact ⟨rfl, by omega⟩)
  have tU := fun (w : Bool) (hw : w = decide (uF p = 0)) => k_takeW w 1 17 b _ p.next.toNat (inlB p) _ hb d3 (by decide)
    (fun g => by
      have : ¬ (p.next.toNat : Int) = 17 := fun q => eu.1 q (of_decide_eq_true (hw.symm.trans g))
      rw [inlB, if_neg this]; exact ⟨rfl, beV1 _⟩)
    (fun g => by
      have : (p.next.toNat : Int) = 17 := eu.2 (of_decide_eq_false (hw.symm.trans g))
      rw [inlB, if_pos this]; exact ⟨rfl, by omega⟩)
  have tH := fun (w : Bool) (hw : w = decide (hF p = 0)) => k_takeW w 1 (hopV p) b _ p.hops.toNat (inlC p) _ hb d4 (by decide)
    (fun g => by
      have g := of_decide_eq_true (hw.symm.trans g)
      unfold hF at g
      split at g
      · cases g
      · split at g
        · cases g
        · split at g
          · cases g
          · rename_i q1 q2 q3
            rw [inlC, if_neg q1, if_neg q2, if_neg q3]; exact ⟨rfl, beV1 _⟩)
    (fun g => by
      have g := of_decide_eq_false (hw.symm.trans g)
      unfold hopV
      unfold hF at g ⊢
      unfold inlC
      split
      · rename_i q; exact ⟨rfl, by simp; omega⟩
      · split
        · rename_i q1 q2; exact ⟨rfl, by simp; omega⟩
        · split
          · rename_i q1 q2 q3; exact ⟨rfl, by simp; omega⟩
          · rename_i q1 q2 q3
            rw [if_neg q1, if_neg q2, if_neg q3] at g; exact absurd rfl g)
  rw [show at_ + (inlF p).length = at_ + (clsB p).length + (flwB p).length + (inlB p).length + (inlC p).length by rw [inlF, inlA_eq]; simp only [List.length_append]; omega]
  have tC0 := fun (h : fF p = 0) => tC true (decide_eq_true (Or.inl h)).symm
  have tC1 := fun (h : ¬ fF p = 0) => tC (fF p == 2) (by rw [Bool.eq_iff_iff, beq_iff_eq, decide_eq_true_eq]; exact ⟨.inr, fun g => g.resolve_left h⟩)
  have tF0 := fun (h : fF p = 0) => tF true (decide_eq_true (Or.inl h)).symm
  have tF1 := fun (h : ¬ fF p = 0) => tF (fF p == 1) (by rw [Bool.eq_iff_iff, beq_iff_eq, decide_eq_true_eq]; exact ⟨.inr, fun g => g.resolve_left h⟩)
  have tU1 := tU (eU (firstH p) == 0) (by rw [eU1, Bool.eq_iff_iff, beq_iff_eq, decide_eq_true_eq])
  have tH1 := tH (hF p == 0) (by rw [Bool.eq_iff_iff, beq_iff_eq, decide_eq_true_eq])
  have hg := hopV_get p
  have hU : ∀ x : Int, eU (firstH p) = 0 → (p.next.toNat : Int) = 17 → False := fun _ h g => eu.1 g (by rw [← eU1]; exact h)
  clear tC tF tU tH d1 d2 d3 d4 hd hb hv ef eu
  unfold eF at eF1
  unfold eH at eH1
  refine spec_of_run ttok mixed (T0 := 37788155270178388582391) (ts := [.cell 4 107, .tmp 5]) 79 rfl rfl rfl rfl (by simp) rfl ?_
  conv => whnf
  repeat' (first | ((with_reducible apply GiveN.keep []); (conv => whnf)) | ((first | ((with_reducible apply Need.mk); focus omega) | (with_reducible first | apply Bif.T | apply Bif.F) | ((with_reducible apply Bif.beq) <;> intro h <;> (try simp only [lns, beN_len, ipB_len] at h)) | (with_reducible apply Frz.l)) <;> conv => whnf) | fail)
  all_goals
    rw [eF1] at h
    rw [eF1, eH1]
    repeat' (first | with_reducible apply True.intro | ((with_reducible apply GiveN.keep []); (conv => whnf)) | ((apply Elem.mk _ hg); (conv => whnf)) | ((apply Same.mk rfl); (conv => whnf)) | ((first | ((with_reducible apply Nm.mk); focus ((try simp only [lns, beN_len, ipB_len]); exact rfl)) | ((with_reducible first | apply Wr.u8 | apply Wr.u32); focus omega) | ((with_reducible apply Need.mk); focus first | omega | kernel_rfl) | (apply CallKN.mk (tC0 (by assumption))) | (apply CallKN.mk (tC1 (by assumption))) | (apply CallKN.mk (tF0 (by assumption))) | (apply CallKN.mk (tF1 (by assumption))) | (apply CallKN.mk (tU1)) | (apply CallKN.mk (tH1)) | (with_reducible first | apply Bif.T | apply Bif.F) | ((with_reducible first | apply Bif.dec | apply Bif.beq | apply Bif.bne) <;> intro h <;> (try simp only [lns, beN_len, ipB_len] at h) <;> (try first | (exfalso; omega) | (exact (hU 0 (by assumption) h).elim))) | (with_reducible apply Frz.l)) <;> conv => whnf) | fail)
end Go.Fw
