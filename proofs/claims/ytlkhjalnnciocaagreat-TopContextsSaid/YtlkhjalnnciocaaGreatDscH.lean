/- Discovery: a router advertisement with one context, encoded. -/
import Derived.Test.YtlkhjalnnciocaaGreatDscD

namespace Go.Fw
open Go.Proofs
set_option maxHeartbeats 8000000
set_option maxRecDepth 8000
def tailB (p : Pfx) (l : Nat) : List UInt8 := [64, 0, 0, 9, 0, 0, 0, 0, 0, 0, 0, 0] ++ optB p l
theorem body_eq (p : Pfx) (l : Nat) : bodyB ++ optB p l = 134 :: 0 :: 0 :: 0 :: tailB p l := by
  rw [show bodyB = [134, 0, 0, 0, 64, 0, 0, 9, 0, 0, 0, 0, 0, 0, 0, 0] by decide]; rfl
theorem tailB_len (p : Pfx) (l : Nat) : (tailB p l).length = 36 := by simp [tailB, optB, beN_len, ipB_len]
noncomputable def sumM (p : Pfx) (l : Nat) : Nat := sumD 134 0 (tailB p l)
noncomputable def msgB (p : Pfx) (l : Nat) : List UInt8 := 134 :: 0 :: (beN 2 (sumM p l) ++ tailB p l)
theorem msgB_len (p : Pfx) (l : Nat) : (msgB p l).length = 40 := by simp [msgB, tailB_len, beN_len]
theorem k_dEncode (p : Pfx) (l : Nat) (c : SV) (hp : vPfx p = true) (hl : l ≤ 65535) (hc : c = .fs .no 20 [ciV p l]) : Con Tryz.prog 30 [msgS 134 64 9 c, ipV ip0, ipV ip0] [] (.tup [.ov 1 0 0 40, int 0]) [.arr none 1 (lst b8 (msgB p l))] := by
  have cv := k_dValid p l c hp hc
  have cb := k_wbody p l c hc
  have co := k_wopts p l c (Decidable.byContradiction fun h => by rw [vPfx_out h] at hp; cases hp) hl hc
  obtain ⟨hs, cs⟩ := k_dSum 134 0 0 0 (tailB p l) .no (by rw [tailB_len]; decide)
  have hlen : (bodyB ++ optB p l).length = 40 := by rw [body_eq]; simp [tailB_len]
  rw [← body_eq] at cs
  have ca := k_Append0 (sumM p l) 2 (by decide)
  subst hc
  refine spec_of_run ttok mixed (T0 := 9727) (ts := [.tmp 6, .tmp 7]) 49 rfl rfl rfl rfl (by simp) rfl ?_
  conv => whnf
  repeat' (first | with_reducible apply True.intro | ((refine GiveN.keep [1] ?_); (conv => whnf); (refine CallKN.mk co ?_); (conv => whnf)) | ((apply Nm.mk (nm_all hlen.symm)); (conv => whnf)) | ((apply Same.mk rfl); (conv => whnf)) | ((first | ((with_reducible apply Nm.mk); focus ((try simp only [lns, beN_len, ipB_len, hlen]); exact rfl)) | ((with_reducible apply Wr.u64); focus omega) | ((with_reducible apply Need.mk); focus first | omega | (simp only [lns, beN_len, ipB_len, hlen]; omega) | exact CleanP.nil rfl | kernel_rfl) | (apply CallN.mk (cv)) | (apply CallN.mk (k_layoutOf)) | (apply CallN.mk (cb)) | (apply CallN.mk (cs)) | (apply CallN.mk (ca)) | (with_reducible apply Bif.T) | (with_reducible apply Bif.not) | (with_reducible first | apply Cut.l | apply GiveN.lend) | (with_reducible apply Frz.l)) <;> conv => whnf) | fail)
end Go.Fw

/- Discovery: the parser. -/
namespace Go.Fw
open Go.Proofs
set_option maxHeartbeats 8000000
set_option maxRecDepth 8000
def parV (m b : SV) : SV := .agg [m, b]
theorem k_pnum (c h l : Int) (b : List UInt8) (at_ n : Int) (hb : b.length ≤ 1000000) (hn : -1000000 ≤ n ∧ n ≤ 1000000) (ha : -1000000 ≤ at_ ∧ at_ ≤ 1000000) :
    Con Tryz.prog 136 [.pb 0 [], int at_, int n] [.cells (parV (msgS c h l nilV) (bys b))] (q64 ((uintM b at_ n).1 : Int)) [.cells (parV (msgS c h l nilV) (bys b))] := by
  have cu := k_Uint b at_ n .no hb hn ha
  refine spec_of_run ttok mixed (T0 := 199) (ts := [.tmp 6]) 20 rfl rfl rfl rfl (by simp) rfl ?_
  conv => whnf
  repeat' (first | with_reducible apply True.intro | ((first | (apply CallN.mk (cu)) | (with_reducible apply Same.rfl) | (with_reducible apply Frz.l)) <;> conv => whnf) | fail)
theorem k_pip (x : List UInt8) (a : IP) (hx : x.length = 8) :
    Con Tryz.prog 137 [.pb 0 [], int 8] [.cells (parV (msgS 134 64 9 nilV) (bys (x ++ ipB a)))] (ipV a) [.cells (parV (msgS 134 64 9 nilV) (bys (x ++ ipB a)))] := by
  have hl : (x ++ ipB a).length = 24 := by simp [hx, ipB_len]
  have hd : List.take (24 - Int.toNat 8) (List.drop (Int.toNat 8) (x ++ ipB a)) = ipB a := by
    rw [show Int.toNat 8 = x.length by rw [hx]; rfl, List.drop_left, List.take_of_length_le (by rw [ipB_len, hx]; decide)]
  have hl2 : (toI (ipB a)).length = 16 := by rw [toI_len, ipB_len]
  have e0 : List.take 0 [0, 0, 0, 0, 0, 0, 0, 0, 0, 0, 0, 0, 0, 0, 0, (0 : Int)] ++ List.take 16 (toI (ipB a)) ++ List.drop (0 + (List.take 16 (toI (ipB a))).length) [0, 0, 0, 0, 0, 0, 0, 0, 0, 0, 0, 0, 0, 0, 0, 0] = a.1 := by
    have e5 : List.take 16 (toI (ipB a)) = a.1 := by rw [List.take_of_length_le (by rw [hl2]; decide)]; exact toI_ipB a
    have e6 : a.1.length = 16 := a.2.1
    rw [e5, e6]; exact List.append_nil _
  refine spec_of_run ttok mixed (T0 := 51) (ts := [.cell 4 67]) 15 rfl rfl rfl rfl (by simp) rfl ?_
  conv => whnf
  repeat' (first | with_reducible apply True.intro | ((apply Byt.mk (toI (ipB a)) (by rw [hd]; exact (toI_rows _).symm)); (conv => whnf)) | ((apply Nm.mk e0); (conv => whnf)) | ((apply Same.mk rfl); (conv => whnf)) | ((first | ((with_reducible apply Nm.mk); focus ((try simp only [lns, beN_len, ipB_len, hl]); exact rfl)) | ((with_reducible apply Need.mk); focus first | omega | (simp only [lns, beN_len, ipB_len, hl]; omega) | kernel_rfl) | (with_reducible apply Frz.l)) <;> conv => whnf) | fail)
theorem u8_back {p : Pfx} (hp : 0 ≤ p.bits ∧ p.bits ≤ 128) : ((UInt8.ofNat p.bits.toNat).toNat : Int) = p.bits := by
  rw [UInt8.toNat_ofNat', Nat.mod_eq_of_lt (by omega)]; omega
theorem k_pctx (p : Pfx) (l : Nat) (hp : 0 ≤ p.bits ∧ p.bits ≤ 128) (hl : l ≤ 65535) :
    Con Tryz.prog 142 [.pb 0 []] [.cells (parV (msgS 134 64 9 nilV) (bys (optB p l)))] (.tup []) [.cells (parV (msgS 134 64 9 (.ov 20 1 0 1)) (bys (optB p l))), .arr none 20 [ciV p l]] := by
  have hlen : (optB p l).length = 24 := by simp [optB, beN_len, ipB_len]
  have ci := k_pip ([34, 3, UInt8.ofNat p.bits.toNat, 19, 0, 0] ++ beN 2 l) p.ip (by simp [beN_len])
  have cn := k_pnum 134 64 9 (optB p l) 6 2 (by omega) (by decide) (by decide)
  have e1 : uintM (optB p l) 6 2 = (l, true) := by
    rw [uintM, if_pos ⟨by decide, by decide, by decide, by rw [hlen]; decide⟩]
    show (beV (List.take 2 (List.drop 6 ([34, 3, UInt8.ofNat p.bits.toNat, 19, 0, 0] ++ beN 2 l ++ ipB p.ip))), true) = _
    rw [List.append_assoc, show List.drop 6 ([34, 3, UInt8.ofNat p.bits.toNat, 19, 0, 0] ++ (beN 2 l ++ ipB p.ip)) = beN 2 l ++ ipB p.ip from rfl, List.take_append_of_le_length (by rw [beN_len]; omega), List.take_of_length_le (by rw [beN_len]; omega), beV_2 l hl]
  rw [e1] at cn
  have hb := u8_back hp
  refine spec_of_run ttok mixed (T0 := 1) (ts := []) 43 rfl rfl rfl rfl (by simp) rfl ?_
  conv => whnf
  repeat' (first | with_reducible apply True.intro | ((apply Elem.mk (b8 (UInt8.ofNat p.bits.toNat)) rfl); (conv => whnf)) | ((apply Elem.mk (b8 19) rfl); (conv => whnf)) | ((apply Wr.eq (y := p.bits) (by rw [hb]; exact wrap64_id (by omega))); (conv => whnf)) | ((apply Wr.eq (y := 3) (by decide)); (conv => whnf)) | ((apply Same.mk rfl); (conv => whnf)) | ((first | ((with_reducible apply Nm.mk); focus ((try simp only [lns, beN_len, ipB_len, hlen]); exact rfl)) | ((with_reducible apply Wr.u16); focus omega) | ((with_reducible apply Need.mk); focus first | (simp only [lns, beN_len, ipB_len, hlen]; omega) | kernel_rfl | (unfold roomOK; simp only [lns, beN_len, ipB_len, hlen]; omega)) | (apply CallN.ro (ci)) | (apply CallN.ro (cn)) | (with_reducible apply Cut.l) | (with_reducible apply Frz.l)) <;> conv => whnf) | fail)
end Go.Fw

/- Discovery: a router advertisement with one context, decoded. -/
namespace Go.Fw
open Go.Proofs
set_option maxHeartbeats 8000000
set_option maxRecDepth 8000
def kb2 (a b : Int) : Value := .agg ([a, b].map fun x => Value.int .u8 x).toArray
def optT : List (Value × SV) := [(kb2 1 1, .agg [.clo 138 []]), (kb2 1 2, .agg [.clo 139 []]), (kb2 33 2, .agg [.clo 140 []]),
  (kb2 3 4, .agg [.clo 141 []]), (kb2 34 3, .agg [.clo 142 []]), (kb2 35 3, .agg [.clo 143 []])]
theorem optT_keys : KeyRun Tryz.prog 238 (optT.map Prod.fst) := key_law (deep_law (m := 2) (by decide) (by kernel_rfl) (by kernel_rfl) (by kernel_rfl)) (by kernel_rfl)
theorem KeyN.opt {l : List Int} {K : Value → Prop} (h : Value.agg (l.map fun x => Value.int .u8 x).toArray ∈ optT.map Prod.fst) (k : K (.agg (l.map fun x => Value.int .u8 x).toArray)) : KeyN Tryz.prog 242 (.ba 2 l) (optT.map Prod.fst) K :=
  KeyN.mk _ _ _ Tryz.underlying242 optT_keys (keyIs_ba 2 l) h k
theorem optB_len (p : Pfx) (l : Nat) : (optB p l).length = 24 := by simp [optB, beN_len, ipB_len]
theorem k_popts (p : Pfx) (l : Nat) (hp : 0 ≤ p.bits ∧ p.bits ≤ 128) (hl : l ≤ 65535) :
    Con Tryz.prog 76 [.pb 0 []] [.cells (parV (msgS 134 64 9 nilV) (bys (optB p l)))] (bool true) [.cells (parV (msgS 134 64 9 (.ov 20 1 0 1)) (bys (optB p l))), .arr none 20 [ciV p l]] := by
  have hlen := optB_len p l
  have cc := k_pctx p l hp hl
  have e0 : gt (optB p l) 0 = 34 := rfl
  have e1 : gt (optB p l) 1 = 3 := rfl
  refine spec_of_run ttok mixed (T0 := 72057596453847293) (ts := [.tmp 2]) 70 rfl rfl rfl rfl (by simp) rfl ?_
  conv => whnf
  repeat' (first | ((apply MapT.mk optT); (conv => whnf)) | ((apply KeyN.opt (by simp [optT, kb2]; done)); (conv => whnf)) | ((with_reducible apply Need.mk); (focus (unfold optT; simp [kb2]; done)); (conv => whnf)) | ((first | ((with_reducible apply Need.mk); focus kernel_rfl) | (with_reducible apply Frz.l)) <;> conv => whnf) | fail)
  refine LoopN.unr 2 ttok mixed (T0 := 72057596453847293) ?_
  conv => whnf
  have n1 : List.take ((3 * 8 : Int).toNat - 0) (List.drop 0 (lst b8 (optB p l))) = lst b8 (optB p l) := nm_all (by rw [hlen]; rfl)
  have n2 : List.take ((lst b8 (optB p l)).length - (3 * 8 : Int).toNat) (List.drop (3 * 8 : Int).toNat (lst b8 (optB p l))) = lst b8 [] := by
    rw [List.drop_eq_nil_of_le (by rw [lst_len, hlen]; decide)]; exact List.take_nil
  repeat' (first | with_reducible apply True.intro | ((apply Nm.mk n1); (conv => whnf)) | ((apply Nm.mk n2); (conv => whnf)) | ((apply Elem.mk (b8 34) rfl); (conv => whnf)) | ((apply Elem.mk (b8 3) rfl); (conv => whnf)) | ((apply Wr.eq (y := 3) (by decide)); (conv => whnf)) | ((apply KeyN.opt (by simp [optT, kb2]; done)); (conv => whnf)) | ((apply EntN.mk 6 (.agg [.clo 142 []])); (conv => whnf)) | ((with_reducible apply Need.mk); (focus (unfold optT; simp [kb2]; done)); (conv => whnf)) | ((apply Same.mk rfl); (conv => whnf)) | ((first | ((with_reducible apply Nm.mk); focus ((try simp only [lns, beN_len, ipB_len, hlen]); exact rfl)) | ((with_reducible apply Wr.i64); focus omega) | ((with_reducible apply Need.mk); focus first | (simp only [lns, beN_len, ipB_len, hlen]; omega) | kernel_rfl) | (apply CallN.mk (cc)) | (with_reducible first | apply Bif.T | apply Bif.F) | ((with_reducible apply Bif.dec) <;> intro h <;> (try simp only [lns, beN_len, ipB_len, hlen] at h) <;> (try (exfalso; omega))) | (with_reducible apply Bif.not) | (with_reducible apply Cut.l) | (with_reducible apply Frz.l)) <;> conv => whnf) | fail)
end Go.Fw

/- Discovery: a router advertisement with one context, decoded. -/
namespace Go.Fw
open Go.Proofs
set_option maxHeartbeats 8000000
set_option maxRecDepth 8000
theorem k_pbody (b : List UInt8) (h0 : gt b 0 = 134) (h4 : gt b 4 = 64) (h6 : uintM b 6 2 = (9, true)) (hb : b.length = 40) :
    Con Tryz.prog 75 [.pb 0 [], lay1V] [.cells (parV (msgS 0 0 0 nilV) (bys b))] (.tup []) [.cells (parV (msgS 134 64 9 nilV) (bys b))] := by
  have cn := k_pnum ((gt b 0).toNat : Int) ((gt b (Int.toNat 4)).toNat : Int) 0 b 6 2 (by omega) (by decide) (by decide)
  rw [h6] at cn
  refine spec_of_run ttok mixed (T0 := 4611694814520442891) (ts := []) 72 rfl rfl rfl rfl (by simp) rfl ?_
  conv => whnf
  repeat' (first | with_reducible apply True.intro | ((apply Same.mk (by rw [h0]; first | done | rfl)); (conv => whnf)) | ((apply Same.mk (by rw [show gt b (Int.toNat 4) = 64 from h4]; first | done | rfl)); (conv => whnf)) | ((apply Same.mk rfl); (conv => whnf)) | ((first | ((with_reducible apply Nm.mk); focus ((try simp only [lns, beN_len, ipB_len, hb]); exact rfl)) | ((with_reducible apply Wr.u16); focus omega) | ((with_reducible apply Need.mk); focus (simp only [lns, beN_len, ipB_len, hb]; omega)) | ((with_reducible apply Elem.lst); focus omega) | (apply CallN.mk (cn)) | (with_reducible first | apply Bif.T | apply Bif.F) | (with_reducible apply Frz.l)) <;> conv => whnf) | fail)
theorem msgB_0 (p : Pfx) (l : Nat) : gt (msgB p l) 0 = 134 := rfl
theorem msgB_d4 (p : Pfx) (l : Nat) : List.drop 4 (msgB p l) = tailB p l := by
  rw [msgB, show List.drop 4 (134 :: 0 :: (beN 2 (sumM p l) ++ tailB p l)) = List.drop 2 (beN 2 (sumM p l) ++ tailB p l) from rfl]
  exact List.drop_left' (beN_len 2 _)
theorem msgB_4 (p : Pfx) (l : Nat) : gt (msgB p l) 4 = 64 := by
  have h1 : gt (msgB p l) 4 = gt (List.drop 4 (msgB p l)) 0 := by rw [gt_drop]
  rw [h1, msgB_d4]; rfl
theorem msgB_6 (p : Pfx) (l : Nat) : uintM (msgB p l) 6 2 = (9, true) := by
  have h1 : List.drop 6 (msgB p l) = List.drop 2 (tailB p l) := by rw [← msgB_d4, List.drop_drop]
  rw [uintM, if_pos ⟨by decide, by decide, by decide, by rw [msgB_len]; decide⟩]
  show (beV (List.take 2 (List.drop 6 (msgB p l))), true) = _
  rw [h1]; rfl
theorem msgB_16 (p : Pfx) (l : Nat) : List.drop 16 (msgB p l) = optB p l := by
  rw [show List.drop 16 (msgB p l) = List.drop 12 (List.drop 4 (msgB p l)) by rw [List.drop_drop], msgB_d4]; rfl
theorem msgB_2 (p : Pfx) (l : Nat) : uintM (msgB p l) 2 2 = (sumM p l, true) := by
  have hs : sumM p l ≤ 65535 := (k_dSum 134 0 0 0 (tailB p l) .no (by rw [tailB_len]; decide)).1
  rw [uintM, if_pos ⟨by decide, by decide, by decide, by rw [msgB_len]; decide⟩]
  show (beV (List.take 2 (beN 2 (sumM p l) ++ tailB p l)), true) = _
  rw [List.take_left' (beN_len 2 _), beV_2 _ hs]
theorem k_mSum (p : Pfx) (l : Nat) (t : Tg) : sumM p l ≤ 65535 ∧ Con Tryz.prog 73 [.fs t 1 (lst b8 (msgB p l)), ipV ip0, ipV ip0] [] (.v (.int .u16 (sumM p l : Int))) [] := by
  have h2 : ∃ x2 x3, beN 2 (sumM p l) = [x2, x3] := by
    have := beN_len 2 (sumM p l)
    match beN 2 (sumM p l), this with
    | [a, b], _ => exact ⟨a, b, rfl⟩
  obtain ⟨x2, x3, h2⟩ := h2
  obtain ⟨hs, cs⟩ := k_dSum 134 0 x2 x3 (tailB p l) t (by rw [tailB_len]; decide)
  refine ⟨hs, ?_⟩
  rw [msgB, h2]; exact cs
theorem k_dDecode (p : Pfx) (l : Nat) (hp : vPfx p = true) (hl : l ≤ 65535) : Con Tryz.prog 31 [bys (msgB p l), ipV ip0, ipV ip0] [] (.tup [msgS 134 64 9 (.fs .no 20 [ciV p l]), int 0]) [] := by
  have hb : 0 ≤ p.bits ∧ p.bits ≤ 128 := Decidable.byContradiction fun h => by rw [vPfx_out h] at hp; cases hp
  obtain ⟨hs, cs⟩ := k_mSum p l .no
  have cu := k_Uint (msgB p l) 2 2 .no (by rw [msgB_len]; decide) (by decide) (by decide)
  rw [msgB_2] at cu
  have hlen := msgB_len p l
  have cb := k_pbody (msgB p l) (msgB_0 p l) (msgB_4 p l) (msgB_6 p l) hlen
  have h16 := msgB_16 p l
  have h0 := msgB_0 p l
  have co := k_popts p l hb hl
  have cl : Con Tryz.prog 69 [b8 (gt (msgB p l) 0)] [] (.tup [lay1V, bool true]) [] := by rw [h0]; exact k_layoutOf
  have ce : Con Tryz.prog 30 [msgS 134 64 9 (.fs .no 20 [ciV p l]), ipV ip0, ipV ip0] [] (.tup [bys (msgB p l), int 0]) [] :=
    (k_dEncode p l _ hp hl rfl).cl (.tup (.cons (.all rfl (msgB_len p l).symm) (.cons (.wk rfl .rfl) .nil))) rfl
  have cq := fun t1 t2 => k_bytesEqual (msgB p l) (msgB p l) t1 t2
  rw [decide_eq_true rfl] at cq
  generalize msgB p l = B at *
  refine spec_of_run ttok mixed (T0 := 9671425003801845669461495) (ts := [.cell 6 94, .tmp 7]) 89 rfl rfl rfl rfl (by simp) rfl ?_
  conv => whnf
  repeat' (first | ((apply Nm.mk (show List.take ((lst b8 B).length - 16) (List.drop 16 (lst b8 B)) = lst b8 _ by rw [nm_tailN, h16])); (conv => whnf)) | ((first | ((with_reducible apply Nm.mk); focus ((try simp only [lns, beN_len, ipB_len, hlen]); exact rfl)) | ((with_reducible apply Wr.u16); focus omega) | ((with_reducible apply Need.mk); focus (simp only [lns, beN_len, ipB_len, hlen]; omega)) | ((with_reducible apply Elem.lst); focus omega) | (apply CallN.mk (cu)) | (apply CallN.mk (cs)) | (apply CallN.mk (cl)) | (apply CallN.mk (cb)) | (apply CallN.mk (co)) | (with_reducible first | apply Bif.T | apply Bif.F) | ((with_reducible first | apply Bif.dec | apply Bif.bne) <;> intro h <;> (try simp only [lns, beN_len, ipB_len, hlen] at h) <;> (try (exfalso; omega))) | (with_reducible apply Bif.not)) <;> conv => whnf) | fail)
  refine Frz.mk 5 ?_
  conv => whnf
  repeat' (first | with_reducible apply True.intro | ((apply Same.mk rfl); (conv => whnf)) | ((first | ((with_reducible apply Nm.mk); focus ((try simp only [lns, beN_len, ipB_len, hlen]); exact rfl)) | ((with_reducible apply Need.mk); focus first | (simp only [lns, beN_len, ipB_len, hlen]; omega) | kernel_rfl) | (apply CallN.le (ce); focus ((repeat' (first | (with_reducible apply ArgLe.nil) | (exact ArgLe.nil) | (exact ArgLe.rfl) | (exact ArgLe.fs) | (exact True.intro) | (apply And.intro) | (apply Wk.arg; repeat' (first | (exact Wk.rfl) | (exact Wk.nilS) | (exact Wk.tag) | (apply Wk.cons) | (apply Wk.lits) | (exact WkL.nil) | (apply WkL.cons) | fail)) | fail)); done)) | (apply CallN.mk (cq _ _)) | (with_reducible first | apply Bif.T | apply Bif.F) | ((with_reducible apply Bif.bne) <;> intro h <;> (try simp only [lns, beN_len, ipB_len, hlen] at h) <;> (try (exfalso; omega))) | (with_reducible apply Bif.not) | (with_reducible apply Frz.l)) <;> conv => whnf) | fail)
end Go.Fw
