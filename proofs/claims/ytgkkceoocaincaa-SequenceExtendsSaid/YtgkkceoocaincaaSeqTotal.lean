/- The laws of chapter 25 with loops: SequenceTotal. -/
import Derived.Test.YtgkkceoocaincaaSeqForms
namespace Go.Fw
open Go.Proofs
set_option maxHeartbeats 4000000
def Good (base : Int) (p : Int × Int) : Prop := ∃ x : Int, 0 ≤ x ∧ x < 4 ∧ p.1 = IntKind.wrap .u16 (base + IntKind.wrap .u16 (IntKind.wrap .i64 (x * 5000)))
theorem good_seq {base x : Int} (h : 0 ≤ x ∧ x < 4) : IntKind.wrap .u16 (base + IntKind.wrap .u16 (IntKind.wrap .i64 (x * 5000))) = (base + 5000 * x) % 65536 := by
  rw [wrap64_id (by omega), wrap16, wrap16]; omega
theorem newer_good {base a b x y : Int} (hx : 0 ≤ x ∧ x < 4) (hy : 0 ≤ y ∧ y < 4) (ha : a = (base + 5000 * x) % 65536) (hb : b = (base + 5000 * y) % 65536) : (newer a b = true ↔ x > y) ∧ (a = b ↔ x = y) := by
  rw [newer_iff]
  have h1 : x = 0 ∨ x = 1 ∨ x = 2 ∨ x = 3 := by omega
  have h2 : y = 0 ∨ y = 1 ∨ y = 2 ∨ y = 3 := by omega
  rcases h1 with rfl | rfl | rfl | rfl <;> rcases h2 with rfl | rfl | rfl | rfl <;> omega
theorem cmp_good {base : Int} {p q : Int × Int} (hp : Good base p) (hq : Good base q) : ∃ x y : Int, (0 ≤ x ∧ x < 4) ∧ (0 ≤ y ∧ y < 4) ∧ p.1 = (base + 5000 * x) % 65536 ∧ q.1 = (base + 5000 * y) % 65536 ∧
    cmp p.1 p.2 q.1 q.2 = if x = y ∧ p.2 = q.2 then 0 else if x > y ∨ (x = y ∧ p.2 < q.2) then -1 else 1 := by
  obtain ⟨x, h1, h2, h3⟩ := hp
  obtain ⟨y, g1, g2, g3⟩ := hq
  rw [good_seq ⟨h1, h2⟩] at h3
  rw [good_seq ⟨g1, g2⟩] at g3
  obtain ⟨e1, e2⟩ := newer_good ⟨h1, h2⟩ ⟨g1, g2⟩ h3 g3
  refine ⟨x, y, ⟨h1, h2⟩, ⟨g1, g2⟩, h3, g3, ?_⟩
  unfold cmp
  simp only [e1, e2]
theorem cmp_anti {base : Int} {p q : Int × Int} (hp : Good base p) (hq : Good base q) : cmp p.1 p.2 q.1 q.2 = IntKind.wrap .i64 (0 - cmp q.1 q.2 p.1 p.2) := by
  obtain ⟨x, y, h1, h2, h3, h4, h5⟩ := cmp_good hp hq
  obtain ⟨y', x', g1, g2, g3, g4, g5⟩ := cmp_good hq hp
  rw [h5, g5]
  rw [wrap64_id (by split <;> (try split) <;> omega)]
  have : x = x' := by omega
  have : y = y' := by omega
  subst x y
  split <;> split <;> (try split) <;> (try split) <;> omega
theorem cmp_zero {base : Int} {p q : Int × Int} (hp : Good base p) (hq : Good base q) : (cmp p.1 p.2 q.1 q.2 == 0) = ((p.1 == q.1) && ((p.2 == q.2) && true)) := by
  obtain ⟨x, y, h1, h2, h3, h4, h5⟩ := cmp_good hp hq
  rw [h5]
  have : p.1 = q.1 ↔ x = y := by omega
  rw [Bool.eq_iff_iff]
  simp only [beq_iff_eq, Bool.and_eq_true, and_true, this]
  split
  · rename_i h; simp [h]
  · rename_i h
    split <;> simp [h]
theorem cmp_trans {base : Int} {p q r : Int × Int} (hp : Good base p) (hq : Good base q) (hr : Good base r) (h : cmp p.1 p.2 q.1 q.2 = -1) (g : cmp q.1 q.2 r.1 r.2 = -1) : cmp p.1 p.2 r.1 r.2 = -1 := by
  obtain ⟨x, y, h1, h2, h3, h4, h5⟩ := cmp_good hp hq
  obtain ⟨y', z, g1, g2, g3, g4, g5⟩ := cmp_good hq hr
  obtain ⟨x', z', f1, f2, f3, f4, f5⟩ := cmp_good hp hr
  rw [h5] at h
  rw [g5] at g
  rw [f5]
  have : x = x' := by omega
  have : y = y' := by omega
  have : z = z' := by omega
  subst x y z
  split at h
  · cases h
  split at h
  case isFalse => cases h
  split at g
  · cases g
  split at g
  case isFalse => cases g
  rw [if_neg (by omega), if_pos (by omega)]
structure TotI (base : Int) where
  k : Nat
  hk : k ≤ 5
  at_ : Int
  ha : 0 ≤ at_
  ds : List (Int × Int)
  hl : ds.length = 5
  good : ∀ j p, j < k → ds[j]? = some p → Good base p
theorem wd_all (ds : List (Int × Int)) : ((ds.map dd).all fun s => Nat.beq (wd s) 2) = true := by
  rw [List.all_eq_true]
  intro s hs
  obtain ⟨p, _, rfl⟩ := List.mem_map.1 hs
  rfl
theorem get_dd {ds : List (Int × Int)} {j : Nat} (h : j < ds.length) : (ds.map dd)[j]? = some (dd ds[j]) := by simp [List.getElem?_eq_getElem h]
theorem k_SequenceTotal (base : Int) (t : List Int) : Con Try.prog 4 [u16 base, .fs .no 1 (ints t)] [] (bool true) [] := by
  have htl : (t.take 400).length ≤ 400 := by simp; omega
  refine spec_of_exec ttok mixed (T0 := 103) (ts := [.tmp 4]) 103 rfl rfl rfl rfl (by simp) rfl ?_
  conv => whnf
  refine CallN.mk (k_made_New _) ?_
  conv => whnf
  refine loop_inv ttok mixed (T0 := 103) (ι := TotI base)
    (fun i => [(0, u16 base), (5, .pb 0 []), (6, .pb 1 []), (7, int (i.k : Int))])
    (fun i => [.cells (tape (t.take 400) i.at_), .cells (.agg (i.ds.map dd))]) (fun i => 5 - i.k) ⟨0, by decide, 0, by decide, [(0, 0), (0, 0), (0, 0), (0, 0), (0, 0)], rfl, fun j p h => by omega⟩
    (Sub.of ⟨rfl, rfl, rfl, rfl, trivial⟩) ?_
  rintro ⟨k, hk, at_, ha, ds, hl, good⟩
  dsimp only
  conv => whnf
  refine Bif.mk (fun h1 => ?_) (fun h1 => ?_)
  · have hk5 : k < 5 := by simp at h1; omega
    conv => whnf
    refine CallN.ex (k_tape_Next _ _ _ (by assumption) (by assumption) (by decide)) ?_
    rintro _ _ ⟨x, a1, rfl, rfl, x1, x2, x3⟩
    conv => whnf
    refine CallN.ex (k_world_Cost _ _ (by assumption) (by assumption)) ?_
    rintro _ _ ⟨y, a2, rfl, rfl, y1, y2, y3⟩
    conv => whnf
    refine Need.mk (by omega) ?_
    conv => whnf
    refine Need.mk (wd_all ds) ?_
    conv => whnf
    have hkl : k < ds.length := by omega
    refine Elem.mk (dd ds[k]) (get_dd hkl) ?_
    conv => whnf
    refine ⟨⟨k + 1, by omega, a2, y3, ds.set k (IntKind.wrap .u16 (base + IntKind.wrap .u16 (IntKind.wrap .i64 (x * 5000))), y), by simpa using hl, fun j p hj hp => ?_⟩, ?_, ?_⟩
    · rw [List.getElem?_set] at hp
      split at hp
      · rename_i e
        subst e
        simp at hp
        subst hp
        exact ⟨x, x1, x2, rfl⟩
      · exact good j p (by omega) hp
    · dsimp only
      rw [List.map_set]
      exact Sub.of ⟨rfl, rfl, rfl, congrArg (fun x => some (SV.v (.int .i64 x))) (inc64 k (by omega)), trivial⟩
    · show 5 - (k + 1) < 5 - k
      omega
  · have hk5 : k = 5 := by simp at h1; omega
    subst hk5
    have gd : ∀ {j : Nat} (h : j < ds.length), Good base ds[j] := fun {j} h => good j _ (by omega) (List.getElem?_eq_getElem h)
    conv => whnf
    refine loop_inv ttok mixed (T0 := 103) (ι := {k : Nat // k ≤ 5})
      (fun i => [(6, .pb 1 []), (8, int (i.1 : Int))])
      (fun _ => [.cells (tape (t.take 400) at_), .cells (.agg (ds.map dd))]) (fun i => 5 - i.1) ⟨0, by decide⟩ (Sub.of ⟨rfl, rfl, trivial⟩) ?_
    rintro ⟨i, hi⟩
    dsimp only
    conv => whnf
    refine Bif.mk (fun h2 => ?_) (fun h2 => ?_)
    · have hi5 : i < ds.length := by simp at h2; omega
      conv => whnf
      refine loop_inv ttok mixed (T0 := 103) (ι := {k : Nat // k ≤ 5})
        (fun j => [(6, .pb 1 []), (8, int (i : Int)), (9, int (j.1 : Int))])
        (fun _ => [.cells (tape (t.take 400) at_), .cells (.agg (ds.map dd))]) (fun j => 5 - j.1) ⟨0, by decide⟩ (Sub.of ⟨rfl, rfl, rfl, trivial⟩) ?_
      rintro ⟨j, hj⟩
      dsimp only
      conv => whnf
      refine Bif.mk (fun h3 => ?_) (fun h3 => ?_)
      · have hj5 : j < ds.length := by simp at h3; omega
        conv => whnf
        have f1 := cmp_anti (gd hi5) (gd hj5)
        have f2 := cmp_zero (gd hi5) (gd hj5)
        have tk : ∀ {n : Nat} (h : n < ds.length), (ds.map dd)[(n : Int).toNat]? = some (dd ds[n]) := fun h => get_dd h
        (refine Need.mk (by omega) ?_; conv => whnf)
        (refine Need.mk (wd_all ds) ?_; conv => whnf)
        (refine Elem.mk _ (tk hi5) ?_; conv => whnf)
        (refine Need.mk (by omega) ?_; conv => whnf)
        (refine Need.mk (wd_all ds) ?_; conv => whnf)
        (refine Elem.mk _ (tk hj5) ?_; conv => whnf)
        (refine CallN.mk (k_Compare _ _ _ _) ?_; conv => whnf)
        (refine Need.mk (by omega) ?_; conv => whnf)
        (refine Need.mk (wd_all ds) ?_; conv => whnf)
        (refine Elem.mk _ (tk hj5) ?_; conv => whnf)
        (refine Need.mk (by omega) ?_; conv => whnf)
        (refine Need.mk (wd_all ds) ?_; conv => whnf)
        (refine Elem.mk _ (tk hi5) ?_; conv => whnf)
        (refine CallN.mk (k_Compare _ _ _ _) ?_; conv => whnf)
        refine Bif.ff (by rw [bne_eq_false_iff_eq]; exact f1) ?_
        conv => whnf
        (refine Need.mk (by omega) ?_; conv => whnf)
        (refine Need.mk (wd_all ds) ?_; conv => whnf)
        (refine Elem.mk _ (tk hi5) ?_; conv => whnf)
        (refine Need.mk (by omega) ?_; conv => whnf)
        (refine Need.mk (wd_all ds) ?_; conv => whnf)
        (refine Elem.mk _ (tk hj5) ?_; conv => whnf)
        (refine CallN.mk (k_Compare _ _ _ _) ?_; conv => whnf)
        (refine Need.mk (by omega) ?_; conv => whnf)
        (refine Need.mk (wd_all ds) ?_; conv => whnf)
        (refine Elem.mk _ (tk hi5) ?_; conv => whnf)
        (refine Need.mk (by omega) ?_; conv => whnf)
        (refine Need.mk (wd_all ds) ?_; conv => whnf)
        (refine Elem.mk _ (tk hj5) ?_; conv => whnf)
        refine Need.mk (by kernel_rfl) ?_
        conv => whnf
        refine Bif.ff (by rw [bne_eq_false_iff_eq]; exact f2) ?_
        conv => whnf
        refine loop_inv ttok mixed (T0 := 103) (ι := {k : Nat // k ≤ 5})
          (fun m => [(6, .pb 1 []), (8, int (i : Int)), (9, int (j : Int)), (10, int (m.1 : Int))])
          (fun _ => [.cells (tape (t.take 400) at_), .cells (.agg (ds.map dd))]) (fun m => 5 - m.1) ⟨0, by decide⟩ (Sub.of ⟨rfl, rfl, rfl, rfl, trivial⟩) ?_
        rintro ⟨m, hm⟩
        dsimp only
        conv => whnf
        refine Bif.mk (fun h4 => ?_) (fun h4 => ?_)
        · have hm5 : m < ds.length := by simp at h4; omega
          have done : ∀ {e' : List (Nat × SV)}, within e' [(6, .pb 1 []), (8, int (i : Int)), (9, int (j : Int)), (10, int ((m + 1 : Nat) : Int))] →
              ∃ jj : {k : Nat // k ≤ 5}, Sub ⟨103, 0⟩ e' [.cells (tape (t.take 400) at_), .cells (.agg (ds.map dd))] [(6, .pb 1 []), (8, int (i : Int)), (9, int (j : Int)), (10, int (jj.1 : Int))] [.cells (tape (t.take 400) at_), .cells (.agg (ds.map dd))] ∧ 5 - jj.1 < 5 - m := fun h =>
            ⟨⟨m + 1, by omega⟩, Sub.of h, by show 5 - (m + 1) < 5 - m; omega⟩
          conv => whnf
          refine Need.mk (by omega) ?_
          conv => whnf
          refine Need.mk (wd_all ds) ?_
          conv => whnf
          refine Elem.mk _ (tk hi5) ?_
          conv => whnf
          refine Need.mk (by omega) ?_
          conv => whnf
          refine Need.mk (wd_all ds) ?_
          conv => whnf
          refine Elem.mk _ (tk hj5) ?_
          conv => whnf
          refine CallN.mk (k_Compare _ _ _ _) ?_
          conv => whnf
          refine Bif.mk (fun h5 => ?_) (fun h5 => ?_)
          · have e5 : cmp ds[i].1 ds[i].2 ds[j].1 ds[j].2 = -1 := by simpa using h5
            conv => whnf
            refine Need.mk (by omega) ?_
            conv => whnf
            refine Need.mk (wd_all ds) ?_
            conv => whnf
            refine Elem.mk _ (tk hj5) ?_
            conv => whnf
            refine Need.mk (by omega) ?_
            conv => whnf
            refine Need.mk (wd_all ds) ?_
            conv => whnf
            refine Elem.mk _ (tk hm5) ?_
            conv => whnf
            refine CallN.mk (k_Compare _ _ _ _) ?_
            conv => whnf
            refine Bif.mk (fun h6 => ?_) (fun h6 => ?_)
            · have e6 : cmp ds[j].1 ds[j].2 ds[m].1 ds[m].2 = -1 := by simpa using h6
              have f3 := cmp_trans (gd hi5) (gd hj5) (gd hm5) e5 e6
              conv => whnf
              refine Need.mk (by omega) ?_
              conv => whnf
              refine Need.mk (wd_all ds) ?_
              conv => whnf
              refine Elem.mk _ (tk hi5) ?_
              conv => whnf
              refine Need.mk (by omega) ?_
              conv => whnf
              refine Need.mk (wd_all ds) ?_
              conv => whnf
              refine Elem.mk _ (tk hm5) ?_
              conv => whnf
              refine CallN.mk (k_Compare _ _ _ _) ?_
              conv => whnf
              refine Need.mk (by kernel_rfl) ?_
              conv => whnf
              refine Bif.ff (by rw [bne_eq_false_iff_eq]; exact f3) ?_
              conv => whnf
              exact done ⟨rfl, rfl, rfl, congrArg (fun x => some (SV.v (.int .i64 x))) (inc64 m (by omega)), trivial⟩
            · conv => whnf
              refine Need.mk (by kernel_rfl) ?_
              conv => whnf
              exact done ⟨rfl, rfl, rfl, congrArg (fun x => some (SV.v (.int .i64 x))) (inc64 m (by omega)), trivial⟩
          · conv => whnf
            refine Need.mk (by kernel_rfl) ?_
            conv => whnf
            exact done ⟨rfl, rfl, rfl, congrArg (fun x => some (SV.v (.int .i64 x))) (inc64 m (by omega)), trivial⟩
        · conv => whnf
          refine ⟨⟨j + 1, by omega⟩, Sub.of ⟨rfl, rfl, congrArg (fun x => some (SV.v (.int .i64 x))) (inc64 j (by omega)), trivial⟩, ?_⟩
          show 5 - (j + 1) < 5 - j
          omega
      · conv => whnf
        refine ⟨⟨i + 1, by omega⟩, Sub.of ⟨rfl, congrArg (fun x => some (SV.v (.int .i64 x))) (inc64 i (by omega)), trivial⟩, ?_⟩
        show 5 - (i + 1) < 5 - i
        omega
    · conv => whnf
      refine CallN.mk k_known ?_
      conv => whnf
      exact Out.none rfl rfl
end Go.Fw
