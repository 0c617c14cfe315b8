/- Discovery: the layouts of messages. -/
import Derived.Test.YtlkhjalnnciocaaGreatSanJ

namespace Go.Fw
open Go.Proofs
set_option maxHeartbeats 8000000
set_option maxRecDepth 8000
def layV (a b c d e : Bool) (n : Int) : SV := .agg [bool a, bool b, bool c, bool d, bool e, int n]
def layT : List (Value × SV) := [(.int .u8 133, layV false false true false false 8), (.int .u8 134, layV true false true false false 16), (.int .u8 135, layV false true true true false 24),
  (.int .u8 136, layV false true true true false 24), (.int .u8 157, layV false true false false true 32), (.int .u8 158, layV false true false false true 32)]
theorem layT_keys : KeyRun Tryz.prog 5 (layT.map Prod.fst) := key_int (kd := .u8) Tryz.underlying5 [133, 134, 135, 136, 157, 158]
theorem KeyN.lay {x : Int} {K : Value → Prop} (h : Value.int .u8 x ∈ layT.map Prod.fst) (k : K (.int .u8 x)) : KeyN Tryz.prog 230 (.v (.int .u8 x)) (layT.map Prod.fst) K :=
  KeyN.mk _ _ _ Tryz.underlying230 layT_keys (keyIs_v _) h k
theorem k_layoutOf : Con Tryz.prog 69 [.v (.int .u8 134)] [] (.tup [layV true false true false false 16, bool true]) [] := by
  refine spec_of_run ttok mixed (T0 := 509) (ts := [.cell 2 165, .tmp 3]) 27 rfl rfl rfl rfl (by simp) rfl ?_
  conv => whnf
  repeat' (first | with_reducible apply True.intro | ((apply MapT.mk layT); (conv => whnf)) | ((apply KeyN.lay (by simp [layT])); (conv => whnf)) | ((apply EntN.mk 5 (layV true false true false false 16)); (conv => whnf)) | ((with_reducible apply Need.mk); (focus (unfold layT; simp [layV, bool, int]; done)); (conv => whnf)) | ((apply Same.mk rfl); (conv => whnf)) | ((with_reducible apply Frz.l) <;> conv => whnf) | fail)
end Go.Fw

/- Discovery: the writer. -/
namespace Go.Fw
open Go.Proofs
set_option maxHeartbeats 8000000
set_option maxRecDepth 8000
theorem k_wnum0 (v n : Nat) (hn : n ≤ 8) : Con Tryz.prog 131 [.pb 0 [], q64 (v : Int), int (n : Int)] [.cells (.agg [nilV])] (.tup []) [.cells (.agg [.ov 1 1 0 n]), .arr (some n) 1 (lst b8 (beN n v))] := by
  have c := k_Append0 v n hn
  refine spec_of_run ttok mixed (T0 := 7) (ts := []) 16 rfl rfl rfl rfl (by simp) rfl ?_
  conv => whnf
  repeat' (first | with_reducible apply True.intro | ((apply Same.mk rfl); (conv => whnf)) | ((first | (apply CallN.mk (c)) | (with_reducible apply Frz.l)) <;> conv => whnf) | fail)
theorem k_wnum (b : List UInt8) (v n L : Nat) (y : Option Nat) (hL : L = b.length) (hn : n ≤ 8) (hb : b.length ≤ 10000) : ConK Tryz.prog 131 [.pb 0 [], q64 (v : Int), int (n : Int)] [.cells (.agg [.ov 1 1 0 L]), .arr y 1 (lst b8 b)] (.tup [])
    [.cells (.agg [.ov 1 2 0 (L + n)]), .arr y 1 (lst b8 b), .arr (some (L + n)) 1 (lst b8 (b ++ beN n v))] := by
  subst hL
  have c := fun t => k_Append b v n t hn (by omega)
  cases y
  all_goals
    refine spec_of_runK ttok mixed (T0 := 7) (ts := []) 16 rfl rfl rfl rfl (by simp) rfl ?_
    conv => whnf
    repeat' (first | with_reducible apply True.intro | ((apply Nm.mk (nm_all rfl)); (conv => whnf)) | ((apply Same.mk rfl); (conv => whnf)) | ((first | ((with_reducible apply Need.mk); focus first | (simp only [lns, beN_len, ipB_len]; omega) | exact CleanP.lst rfl (fun _ => rfl)) | (apply CallN.mk (c _)) | (with_reducible first | apply Cut.l | apply GiveN.lend) | (with_reducible apply Frz.l)) <;> conv => whnf) | fail)
theorem k_wrow (b r : List UInt8) (L m : Nat) (z : Option Nat) (hL : L = b.length) (hm : m = r.length) (h1 : 1 ≤ m) (h2 : m ≤ 1000) (hb : b.length ≤ 10000) : ConK Tryz.prog 132 [.pb 0 [], .ov 1 1 0 m] [.cells (.agg [.ov 1 2 0 L]), .arr z 1 (lst b8 r), .arr (some L) 1 (lst b8 b)] (.tup [])
    [.cells (.agg [.ov 1 3 0 (L + m)]), .arr z 1 (lst b8 r), .arr (some L) 1 (lst b8 b), .arr none 1 (lst b8 (b ++ r))] := by
  subst hL hm
  cases z
  all_goals
    refine spec_of_runK ttok mixed (T0 := 3) (ts := []) 13 rfl rfl rfl rfl (by simp) rfl ?_
    conv => whnf
    repeat' (first | with_reducible apply True.intro | ((apply Nm.mk (nm_all rfl)); (conv => whnf)) | ((with_reducible apply Alt.r); (with_reducible apply Alt.r); (conv => whnf)) | ((apply Same.mk rfl); (conv => whnf)) | ((first | ((with_reducible apply Nm.mk); focus ((try simp only [lns, beN_len, ipB_len]); exact rfl)) | ((with_reducible apply Need.mk); focus first | (simp only [lns, beN_len, ipB_len]; omega) | (unfold roomOK; simp only [lns, beN_len, ipB_len]; omega)) | (with_reducible apply Cut.l) | (with_reducible apply Frz.l)) <;> conv => whnf) | fail)
theorem k_wip (b : List UInt8) (a : IP) (L : Nat) (hL : L = b.length) (hb : b.length ≤ 10000) : ConK Tryz.prog 133 [.pb 0 [], ipV a] [.cells (.agg [.ov 1 1 0 L]), .arr (some L) 1 (lst b8 b)] (.tup [])
    [.cells (.agg [.ov 1 2 0 (L + 16)]), .arr (some L) 1 (lst b8 b), .arr none 1 (lst b8 (b ++ ipB a))] := by
  subst hL
  refine spec_of_runK ttok mixed (T0 := 11) (ts := []) 13 rfl rfl rfl rfl (by simp) rfl ?_
  conv => whnf
  repeat' (first | with_reducible apply True.intro | ((apply Nm.mk (nm_ip a)); (conv => whnf)) | ((with_reducible apply Alt.r); (with_reducible apply Alt.r); (conv => whnf)) | ((apply Same.mk rfl); (conv => whnf)) | ((first | ((with_reducible apply Nm.mk); focus ((try simp only [lns, beN_len, ipB_len]); exact rfl)) | ((with_reducible apply Need.mk); focus first | omega | kernel_rfl | (unfold roomOK; simp only [lns, beN_len, ipB_len]; omega)) | (with_reducible apply Cut.l) | (with_reducible apply Frz.l)) <;> conv => whnf) | fail)
theorem k_dflag (b : Bool) (x : Int) : Con Tryz.prog 134 [bool b, .v (.int .u8 x)] [] (.v (.int .u8 (if b = true then x else 0))) [] := by
  cases b
  all_goals
    refine spec_of_run ttok mixed (T0 := 51) (ts := [.tmp 4]) 7 rfl rfl rfl rfl (by simp) rfl ?_
    conv => whnf
    repeat' (first | with_reducible apply True.intro | ((first | (with_reducible first | apply Bif.T | apply Bif.F) | (apply Same.int; focus rfl) | (with_reducible apply Frz.l)) <;> conv => whnf) | fail)
end Go.Fw

/- Discovery: a router advertisement with one context, written. -/
namespace Go.Fw
open Go.Proofs
set_option maxHeartbeats 8000000
set_option maxRecDepth 8000
def adr0V : SV := .agg [int 0, .v (.int .u16 0), .v (.int .u64 0)]
def own0V : SV := .agg [.v (.int .u64 0), .v (.int .u8 0), .v (.int .u8 0), .v (.int .u16 0)]
def bor0V : SV := .agg [.v (.int .u32 0), .v (.int .u16 0), ipV ip0]
def msgS (t h l : Int) (c : SV) : SV := .agg [.v (.int .u8 t), .v (.int .u8 h), .v (.int .u16 l), ipV ip0, adr0V, own0V, bool false, nilV, c, bor0V, bool false]
def ciV (p : Pfx) (l : Nat) : SV := .agg [int 3, pfxV p, bool true, .v (.int .u16 (l : Int))]
def lay1V : SV := layV true false true false false 16
def bodyB : List UInt8 := beN 1 134 ++ beN 3 0 ++ [64, 0] ++ beN 2 9 ++ beN 8 0
theorem bodyB_len : bodyB.length = 16 := by decide
theorem row2 : ([.v (.int .u8 64), .v (.int .u8 0)] : List SV) = lst b8 [64, 0] := rfl
theorem k_wbody (p : Pfx) (l : Nat) (c : SV) (hc : c = .fs .no 20 [ciV p l]) : Con Tryz.prog 70 [.pb 0 [], msgS 134 64 9 c, lay1V] [.cells (.agg [nilV])] (.tup []) [.cells (.agg [.ov 1 1 0 16]), .arr (some 16) 1 (lst b8 bodyB)] := by
  subst hc
  refine spec_of_run ttok mixed (T0 := 144117387099373687) (ts := []) 62 rfl rfl rfl rfl (by simp) rfl ?_
  conv => whnf
  repeat' (first | with_reducible apply True.intro | ((with_reducible apply GiveN.keep [1]); (conv => whnf)) | ((apply Same.mk rfl); (conv => whnf)) | ((first | ((with_reducible apply Wr.u64); focus omega) | (apply CallN.mk (k_wnum0 134 1 (by decide))) | (apply CallKN.mk (k_wnum (beN 1 134) 0 3 1 _ (by simp [beN_len]) (by decide) (by simp [beN_len]))) | (apply CallKN.mk (k_wrow (beN 1 134 ++ beN 3 0) [64, 0] 4 2 _ (by simp [beN_len]) rfl (by decide) (by decide) (by simp [beN_len]))) | (apply CallKN.mk (k_wnum (beN 1 134 ++ beN 3 0 ++ [64, 0]) 9 2 6 _ (by simp [beN_len]) (by decide) (by simp [beN_len]))) | (apply CallKN.mk (k_wnum (beN 1 134 ++ beN 3 0 ++ [64, 0] ++ beN 2 9) 0 8 8 _ (by simp [beN_len]) (by decide) (by simp [beN_len]))) | (with_reducible first | apply Bif.T | apply Bif.F) | (with_reducible apply Frz.l)) <;> conv => whnf) | fail)
def optB (p : Pfx) (l : Nat) : List UInt8 := [34, 3, UInt8.ofNat p.bits.toNat, 19, 0, 0] ++ beN 2 l ++ ipB p.ip
theorem k_wrowR (R : List SV) (b r : List UInt8) (L m : Nat) (z : Option Nat) (hR : R = lst b8 r) (hL : L = b.length) (hm : m = r.length) (h1 : 1 ≤ m) (h2 : m ≤ 1000) (hb : b.length ≤ 10000) : ConK Tryz.prog 132 [.pb 0 [], .ov 1 1 0 m] [.cells (.agg [.ov 1 2 0 L]), .arr z 1 R, .arr (some L) 1 (lst b8 b)] (.tup [])
    [.cells (.agg [.ov 1 3 0 (L + m)]), .arr z 1 R, .arr (some L) 1 (lst b8 b), .arr none 1 (lst b8 (b ++ r))] := by
  subst hR; exact k_wrow b r L m z hL hm h1 h2 hb
theorem u8_nat {x : Int} (h : 0 ≤ x ∧ x ≤ 255) : SV.v (.int .u8 x) = b8 (UInt8.ofNat x.toNat) := by
  show SV.v (.int .u8 x) = SV.v (.int .u8 ((UInt8.ofNat x.toNat).toNat : Int))
  rw [UInt8.toNat_ofNat', Nat.mod_eq_of_lt (by omega)]
  congr 2; omega
theorem k_wopts (p : Pfx) (l : Nat) (c : SV) (hp : 0 ≤ p.bits ∧ p.bits ≤ 128) (hl : l ≤ 65535) (hc : c = .fs .no 20 [ciV p l]) : ConK Tryz.prog 71 [.pb 0 [], msgS 134 64 9 c, lay1V] [.cells (.agg [.ov 1 1 0 16]), .arr (some 16) 1 (lst b8 bodyB)] (.tup [])
    [.cells (.agg [.ov 1 2 0 40]), .arr (some 16) 1 (lst b8 bodyB), .arr none 1 (lst b8 (bodyB ++ optB p l))] := by
  subst hc
  have hb := bodyB_len
  have cf := k_dflag true 16
  rw [if_pos rfl] at cf
  have r1 := k_wrowR [.v (.int .u8 34), .v (.int .u8 3), .v (.int .u8 p.bits), .v (.int .u8 19), .v (.int .u8 0), .v (.int .u8 0)] bodyB [34, 3, UInt8.ofNat p.bits.toNat, 19, 0, 0] 16 6 (some 6) (by rw [u8_nat (x := p.bits) (by omega)]; rfl) hb.symm rfl (by decide) (by decide) (by omega)
  have r2 := k_wnum (bodyB ++ [34, 3, UInt8.ofNat p.bits.toNat, 19, 0, 0]) l 2 22 none (by simp [hb]) (by decide) (by simp [hb])
  have r3 := k_wip (bodyB ++ [34, 3, UInt8.ofNat p.bits.toNat, 19, 0, 0] ++ beN 2 l) p.ip 24 (by simp [hb, beN_len]) (by simp [hb, beN_len])
  refine spec_of_runK ttok mixed (T0 := 21778071558999097679776957613494931391863) (ts := []) 155 rfl rfl rfl rfl (by simp) rfl ?_
  conv => whnf
  repeat' (first | ((first | (with_reducible apply Bif.F) | ((with_reducible apply Bif.beq) <;> intro h <;> (try simp only [lns, beN_len, ipB_len] at h) <;> (try (exfalso; omega))) | (with_reducible apply Frz.l)) <;> conv => whnf) | fail)
  refine LoopN.unr 1 ttok mixed (T0 := 21778071558999097679776957613494931391863) ?_
  conv => whnf
  repeat' (first | ((first | ((with_reducible apply Nm.mk); focus ((try simp only [lns, beN_len, ipB_len]); exact rfl)) | ((with_reducible apply Bif.dec) <;> intro h <;> (try simp only [lns, beN_len, ipB_len] at h) <;> (try (exfalso; omega))) | (with_reducible apply Frz.l)) <;> conv => whnf) | fail)
  refine LoopN.unr 2 ttok mixed (T0 := 21778071558999097679776957613494931391863) ?_
  conv => whnf
  repeat' (first | with_reducible apply True.intro | ((with_reducible apply GiveN.keep [1]); (conv => whnf)) | ((apply Elem.mk _ rfl); (conv => whnf)) | ((apply Same.mk rfl); (conv => whnf)) | ((first | ((with_reducible apply Nm.mk); focus ((try simp only [lns, beN_len, ipB_len]); exact rfl)) | ((with_reducible first | apply Wr.i64 | apply Wr.u8 | apply Wr.u64); focus omega) | ((with_reducible apply Need.mk); focus first | (simp only [lns, beN_len, ipB_len]; omega) | kernel_rfl) | (apply CallN.mk (cf)) | (apply CallKN.mk (r1)) | (apply CallKN.mk (r2)) | (apply CallKN.mk (r3)) | (with_reducible apply Bif.F) | ((with_reducible apply Bif.dec) <;> intro h <;> (try simp only [lns, beN_len, ipB_len] at h) <;> (try (exfalso; omega))) | (with_reducible apply Cut.l) | (with_reducible apply Frz.l)) <;> conv => whnf) | fail)
end Go.Fw

/- Discovery: a router advertisement with one context is valid; its checksum. -/
namespace Go.Fw
open Go.Proofs
set_option maxHeartbeats 8000000
set_option maxRecDepth 8000
theorem k_vLists (p : Pfx) (l : Nat) (c : SV) (hp : vPfx p = true) (hc : c = .fs .no 20 [ciV p l]) : Con Tryz.prog 128 [msgS 134 64 9 c] [] (bool true) [] := by
  subst hc
  have cv := k_ValidPrefix p
  rw [hp] at cv
  refine spec_of_run ttok mixed (T0 := 562966197764183) (ts := [.tmp 2]) 51 rfl rfl rfl rfl (by simp) rfl ?_
  conv => whnf
  repeat' (first | ((first | ((with_reducible apply Nm.mk); focus ((try simp only [lns, beN_len, ipB_len]); exact rfl)) | (with_reducible apply Bif.F) | ((with_reducible apply Bif.dec) <;> intro h <;> (try simp only [lns, beN_len, ipB_len] at h) <;> (try (exfalso; omega))) | (with_reducible apply Frz.l)) <;> conv => whnf) | fail)
  refine LoopN.unr 1 ttok mixed (T0 := 562966197764183) ?_
  conv => whnf
  repeat' (first | ((first | ((with_reducible apply Nm.mk); focus ((try simp only [lns, beN_len, ipB_len]); exact rfl)) | ((with_reducible apply Bif.dec) <;> intro h <;> (try simp only [lns, beN_len, ipB_len] at h) <;> (try (exfalso; omega))) | (with_reducible apply Frz.l)) <;> conv => whnf) | fail)
  refine LoopN.unr 2 ttok mixed (T0 := 562966197764183) ?_
  conv => whnf
  repeat' (first | with_reducible apply True.intro | ((apply Elem.mk _ rfl); (conv => whnf)) | ((apply Same.mk rfl); (conv => whnf)) | ((first | ((with_reducible apply Nm.mk); focus ((try simp only [lns, beN_len, ipB_len]); exact rfl)) | ((with_reducible apply Wr.i64); focus omega) | ((with_reducible apply Need.mk); focus (simp only [lns, beN_len, ipB_len]; omega)) | (apply CallN.mk (cv)) | (with_reducible first | apply Bif.T | apply Bif.F) | ((with_reducible apply Bif.dec) <;> intro h <;> (try simp only [lns, beN_len, ipB_len] at h) <;> (try (exfalso; omega))) | (with_reducible apply Bif.not) | (with_reducible apply Frz.l)) <;> conv => whnf) | fail)
theorem k_adr0 : Con Tryz.prog 129 [adr0V] [] (bool true) [] := k_addrValid ⟨0, 0, 0⟩
theorem k_adr0B : Con Tryz.prog 130 [adr0V] [] (bool false) [] := by
  refine spec_of_run ttok mixed (T0 := 7) (ts := [.tmp 2]) 6 rfl rfl rfl rfl (by simp) rfl ?_
  conv => whnf
  repeat' (first | with_reducible apply True.intro | ((first | (apply Same.rfl) | (with_reducible apply Frz.l)) <;> conv => whnf) | fail)
theorem k_dValid (p : Pfx) (l : Nat) (c : SV) (hp : vPfx p = true) (hc : c = .fs .no 20 [ciV p l]) : Con Tryz.prog 68 [msgS 134 64 9 c] [] (bool true) [] := by
  have cl := k_vLists p l c hp hc
  subst hc
  refine spec_of_run ttok mixed (T0 := 1267650601408821585164604801087) (ts := [.tmp 2]) 119 rfl rfl rfl rfl (by simp) rfl ?_
  conv => whnf
  repeat' (first | with_reducible apply True.intro | ((apply Bif.ff (by decide)); (conv => whnf)) | ((apply Bif.tt (by decide)); (conv => whnf)) | ((apply Same.mk rfl); (conv => whnf)) | ((first | ((with_reducible apply Nm.mk); focus ((try simp only [lns, beN_len, ipB_len]); exact rfl)) | (apply CallN.mk (k_layoutOf)) | (apply CallN.mk (cl)) | (apply CallN.mk (k_adr0)) | (apply CallN.mk (k_adr0B)) | (with_reducible apply Frz.l)) <;> conv => whnf) | fail)
theorem k_InternetE (L : List (List UInt8)) (h : L.length ≤ 100 ∧ ∀ l ∈ L, l.length ≤ 100000) : ∃ v : Nat, v ≤ 65535 ∧ Con Tryz.prog 135 [.fs .no 1 (lst bys L)] [] (.v (.int .u16 (v : Int))) [] := by
  obtain ⟨_, _, ⟨v, rfl, rfl, hv⟩, hc⟩ := k_Internet L h.1 h.2
  exact ⟨v, hv, hc⟩
noncomputable def sumI (L : List (List UInt8)) : Nat := open Classical in if h : L.length ≤ 100 ∧ ∀ l ∈ L, l.length ≤ 100000 then (k_InternetE L h).choose else 0
theorem k_sumI (L : List (List UInt8)) (h : L.length ≤ 100 ∧ ∀ l ∈ L, l.length ≤ 100000) : sumI L ≤ 65535 ∧ Con Tryz.prog 135 [.fs .no 1 (lst bys L)] [] (.v (.int .u16 (sumI L : Int))) [] := by
  have e : sumI L = (k_InternetE L h).choose := by rw [sumI, dif_pos h]
  rw [e]
  exact (k_InternetE L h).choose_spec
def sumLs (x0 x1 : UInt8) (bs : List UInt8) : List (List UInt8) := [ipB ip0, ipB ip0, beN 4 (bs.length + 4), [0, 0, 0, 58], [x0, x1, 0, 0], bs]
noncomputable def sumD (x0 x1 : UInt8) (bs : List UInt8) : Nat := sumI (sumLs x0 x1 bs)
theorem k_dSum (x0 x1 x2 x3 : UInt8) (bs : List UInt8) (t : Tg) (hb : bs.length ≤ 10000) : sumD x0 x1 bs ≤ 65535 ∧ Con Tryz.prog 73 [.fs t 1 (lst b8 (x0 :: x1 :: x2 :: x3 :: bs)), ipV ip0, ipV ip0] [] (.v (.int .u16 (sumD x0 x1 bs : Int))) [] := by
  obtain ⟨h1, hI⟩ := k_sumI (sumLs x0 x1 bs) ⟨by simp [sumLs], fun l hl => by
    simp only [sumLs, List.mem_cons, List.not_mem_nil, or_false] at hl
    rcases hl with rfl | rfl | rfl | rfl | rfl | rfl <;> first | omega | (simp [beN_len, ipB_len]; done) | (simp [beN_len] <;> omega)⟩
  refine ⟨h1, ?_⟩
  have ca := k_Append0 (bs.length + 4) 4 (by decide)
  refine spec_of_run ttok mixed (T0 := 2099191) (ts := [.tmp 6]) 43 rfl rfl rfl rfl (by simp) rfl ?_
  conv => whnf
  have e9 : List.take (bs.length + 1 + 1 + 1 + 1 - 4) (List.drop 4 (x0 :: x1 :: x2 :: x3 :: bs)) = bs := by simp
  have hI : Con Tryz.prog 135 [.fs .no 1 (lst bys [ipB ip0, ipB ip0, beN 4 (bs.length + 4), [0, 0, 0, 58], [x0, x1, 0, 0], List.take (bs.length + 1 + 1 + 1 + 1 - 4) (List.drop 4 (x0 :: x1 :: x2 :: x3 :: bs))])] [] (.v (.int .u16 (sumD x0 x1 bs : Int))) [] := by rw [e9]; exact hI
  have m4 : (min ((bs.length + 1 + 1 + 1 + 1 : Nat) : Int) 4).toNat = 4 := by omega
  repeat' (first | ((apply Nm.mk m4); (conv => whnf)) | ((apply Nm.mk (show _ = lst b8 [x0, x1, x2, x3] from rfl)); (conv => whnf)) | ((first | (with_reducible apply Nm.rep _ (rfl)) | ((with_reducible apply Nm.mk); focus ((try simp only [lns, beN_len, ipB_len]); exact rfl)) | ((with_reducible apply Need.mk); focus first | (simp only [lns, beN_len, ipB_len]; omega) | (refine ⟨?_, ?_, ?_⟩ <;> first | omega | (unfold roomOK; omega) | fail)) | (with_reducible apply Frz.l)) <;> conv => whnf) | fail)
  refine LoopN.unr 3 ttok mixed (T0 := 2099191) ?_
  conv => whnf
  repeat' (first | with_reducible apply True.intro | ((apply Elem.mk _ rfl); (conv => whnf)) | ((apply Nm.mk (nm_ip _)); (conv => whnf)) | ((apply Nm.mk (nm_all (beN_len 4 _).symm)); (conv => whnf)) | ((apply Nm.mk (show _ = lst b8 [x0, x1, 0, x3] from rfl)); (conv => whnf)) | ((apply Nm.mk (show _ = lst b8 [x0, x1, 0, 0] from rfl)); (conv => whnf)) | ((first | ((with_reducible apply Nm.mk); focus ((try simp only [lns, beN_len, ipB_len]); exact rfl)) | ((with_reducible first | apply Wr.i64 | apply Wr.u64); focus omega) | ((with_reducible apply Need.mk); focus first | omega | (simp only [lns, beN_len, ipB_len]; omega) | exact CleanP.nil rfl | kernel_rfl) | (apply CallN.mk (ca)) | (apply CallN.le (hI); focus ((repeat' (first | (with_reducible apply ArgLe.nil) | (exact ArgLe.nil) | (exact ArgLe.rfl) | (exact ArgLe.fs) | (exact True.intro) | (apply And.intro) | (apply Wk.arg; repeat' (first | (exact Wk.rfl) | (exact Wk.nilS) | (exact Wk.tag) | (apply Wk.cons) | (apply Wk.lits) | (exact WkL.nil) | (apply WkL.cons) | fail)) | fail)); done)) | ((with_reducible apply Bif.dec) <;> intro h <;> (try simp only [lns, beN_len, ipB_len] at h) <;> (try (exfalso; omega))) | (with_reducible apply Same.rfl) | (with_reducible apply GiveN.lend) | (with_reducible apply Frz.l)) <;> conv => whnf) | fail)
end Go.Fw
