/- ReassemblyLate: plain law and walk. -/
import Derived.Test.YteebplkhnhpiiaaRasLb
namespace Go.Fw
open Go.Proofs
set_option maxHeartbeats 8000000
set_option maxRecDepth 4000
theorem not_all {s : List Bool} {j : Nat} (h : s[j]? = some false) : s.all id = false := by
  rw [List.all_eq_false]
  exact ⟨false, List.mem_of_getElem? h, by simp⟩
/-- The first i of n. -/
def pre (n i : Nat) : List Bool := (List.range n).map fun j => decide (j < i)
theorem pre_len (n i : Nat) : (pre n i).length = n := by simp [pre]
theorem pre_get {n i j : Nat} (h : j < n) : (pre n i)[j]? = some (decide (j < i)) := by simp [pre, h]
theorem pre_set {n i : Nat} : (pre n i).set i true = pre n (i + 1) := by
  refine List.ext_getElem (by simp [pre]) fun j h1 h2 => ?_
  simp only [pre, List.getElem_set, List.getElem_map, List.getElem_range]
  split
  · rename_i e; subst e; simp
  · simp only [decide_eq_decide]; omega
theorem pre_not {n i : Nat} (h : i < n) : (pre n i).all id = false := not_all (j := i) (by rw [pre_get h]; simp)
theorem pre_all {n i : Nat} (h : n ≤ i) : (pre n i).all id = true := by
  rw [List.all_eq_true]
  intro x hx
  obtain ⟨j, hj, rfl⟩ := List.mem_map.1 hx
  have := List.mem_range.1 hj
  simp; omega
namespace Dat
variable (D : Dat)
theorem siz {s : List Bool} {u : Int} (h : D.St s u) : sizB (D.buf s u) := by
  obtain ⟨h1, h2⟩ := validB_parts (D.valid h)
  exact ⟨by omega, fun f hf => by have := (h2 f hf).2; omega⟩
theorem dlen {k : Nat} (hk : k < D.f.length) : 1 ≤ (gt D.f k).data.length ∧ (gt D.f k).data.length ≤ 2047 := by
  have := okF_iff.1 (D.ok hk)
  omega
theorem siz1 {s : List Bool} {u : Int} (h : D.St s u) : sizL [D.buf s u] := ⟨by simp, fun b hb => by rw [List.mem_singleton.1 hb]; exact D.siz h⟩
theorem hit1 {s : List Bool} {u now : Int} {k : Nat} (h : D.St s u) (hu : u > now) (hn : isTm now) (hk : k < D.f.length) : addM [D.buf s u] D.src D.dst (gt D.f k) now = if (s.set k true).all id = true then ([], D.b, 0) else ([D.buf (s.set k true) u], [], 0) :=
  D.add_hit (l := [D.buf s u]) (i := 0) (s := s) (u := u) (validL_one (D.valid h)) (fun x hx => by rw [List.mem_singleton.1 hx]; exact hu) hn (by simp) rfl h.len hk
theorem new0 {now : Int} {k : Nat} (hn : isTm now) (hk : k < D.f.length) : addM [] D.src D.dst (gt D.f k) now = if (D.unit k).all id = true then ([], D.b, 0) else ([D.buf (D.unit k) (min (now + 12) 1099511627776)], [], 0) :=
  D.add_new (l := []) validL_nil (by simp) hn (by simp) (by simp) hk
theorem gone1 {s : List Bool} {u now : Int} {k : Nat} (h : D.St s u) (hu : u ≤ now) (hn : isTm now) (hk : k < D.f.length) : addM [D.buf s u] D.src D.dst (gt D.f k) now = addM [] D.src D.dst (gt D.f k) now := by
  have e : expB [D.buf s u] now = [] := by
    have : ¬ (now < u) := by omega
    simp [expB, buf, this]
  have e0 : expB [] now = [] := rfl
  rw [addM_ok ⟨validL_one (D.valid h), D.hs, D.hd, D.ok hk⟩ hn, addM_ok ⟨validL_nil, D.hs, D.hd, D.ok hk⟩ hn, e, e0]
theorem exp1 {s : List Bool} {u now : Int} (h : D.St s u) (hu : u ≤ now) (hn : isTm now) : expM [D.buf s u] now = ([], 0) := by
  have e : expB [D.buf s u] now = [] := by
    have : ¬ (now < u) := by omega
    simp [expB, buf, this]
  rw [expM, if_pos (validL_one (D.valid h)), if_pos hn, e]
theorem unit_pre : D.unit 0 = pre D.f.length 1 := by
  rw [unit, ← pre_set (i := 0)]
  congr 1
  refine List.ext_getElem (by simp [pre]) fun j h1 h2 => ?_
  simp [pre]
theorem unit_not {k : Nat} (h : 2 ≤ D.f.length) : (D.unit k).all id = false := by
  by_cases hk : k = 0
  · subst hk; exact not_all (j := 1) (by rw [unit, List.getElem?_set, if_neg (by omega), List.getElem?_replicate, if_pos (by omega)])
  · exact not_all (j := 0) (by rw [unit, List.getElem?_set, if_neg hk, List.getElem?_replicate, if_pos (by omega)])
theorem St_pre {i : Nat} {u : Int} (h : 1 ≤ i ∧ i < D.f.length) (hu : isTm u) : D.St (pre D.f.length i) u :=
  ⟨pre_len _ _, ⟨0, by rw [pre_get (by omega)]; simp; omega⟩, pre_not h.2, hu⟩
end Dat
theorem cut_two {b : List UInt8} {tag : Int} (h : 10 ≤ b.length) : 2 ≤ (cutB b tag).length := by
  unfold cutB
  obtain ⟨m, hm⟩ : ∃ m, b.length = m + 2 := ⟨b.length - 2, by omega⟩
  generalize hL : b.length = L at *
  have hc : cutN 13 0 L = 8 := by unfold cutN; rw [if_pos (by simp; omega)]; rfl
  subst hm
  rw [spF, if_pos (by omega), hL, hc, spF, if_pos (by omega)]
  simp
structure LatI (n : Nat) where
  i : Nat
  hi : 1 ≤ i ∧ i < n
theorem k_ReassemblyLate (t : List Int) (n start late : Int) : Con Try.prog 7 [.fs .no 1 (ints t), int n, int start, int late] [] (bool true) [] := by
  have ht : (t.take 400).length ≤ 400 := by simp; omega
  generalize hT : t.take 400 = l at ht
  have hN := k_made_New t
  rw [hT] at hN
  have cn := k_made_Mod n 50 (by omega)
  have hn := modV_range (v := n) (n := 50) (by omega)
  have cs := k_made_Mod start 1000 (by omega)
  have hs := modV_range (v := start) (n := 1000) (by omega)
  have cl := k_made_Mod late 100 (by omega)
  have hl := modV_range (v := late) (n := 100) (by omega)
  generalize modV n 50 = m at *
  generalize modV start 1000 = now at *
  generalize modV late 100 = w at *
  have cd1 := k_device 1 (by omega)
  have cd2 := k_device 2 (by omega)
  have cK := k_known
  refine spec_of_run ttok mixed (T0 := 1125899908931343) (ts := [.tmp 8]) 125 rfl rfl rfl rfl (by simp) rfl ?_
  conv => whnf
  repeat' (first | ((first | ((with_reducible apply Wr.i64); focus omega) | (apply CallN.mk (hN)) | (apply CallN.mk (cn)) | (with_reducible apply Frz.l)) <;> conv => whnf) | fail)
  obtain ⟨q, hq⟩ : ∃ q : Nat, 10 + m = q := ⟨(10 + m).toNat, by omega⟩
  rw [hq]
  repeat' (first | ((first | (refine CallN.ex (k_Fill l _ q (by omega) ht (by omega)) ?_; rintro _ _ ⟨b, k1, rfl, rfl, hb, hk1⟩) | (with_reducible apply Frz.l)) <;> conv => whnf) | fail)
  have cc := k_cut b 5 .no (by omega)
  have hch := spF_chn (room := 13) (tag := 5) (b := b) (by omega) (by omega) b.length 0 (by omega) (by omega) (by omega)
  have h2 := cut_two (b := b) (tag := 5) (by omega)
  have h3 := spF_len (room := 13) (tag := 5) (b := b) (by omega) b.length 0
  change Chn b 5 0 (cutB b 5) at hch
  change (cutB b 5).length ≤ _ at h3
  obtain ⟨D, e1, e2, e3, e4⟩ : ∃ D : Dat, D.src = dev 1 ∧ D.dst = dev 2 ∧ D.b = b ∧ D.f = cutB b 5 := ⟨⟨dev 1, dev 2, 5, b, cutB b 5, by decide, by decide, by omega, hch⟩, rfl, rfl, rfl, rfl⟩
  have hDl : D.f.length = (cutB b 5).length := by rw [e4]
  have hu : min (now + 12) 1099511627776 = now + 12 := by omega
  have tu : isTm (now + 12) := ⟨by omega, by omega⟩
  have tn : isTm now := ⟨by omega, by omega⟩
  have tw : isTm (now + (12 + w)) := ⟨by omega, by omega⟩
  have a0 := D.new0 (k := 0) tn (by omega)
  rw [if_neg (by rw [D.unit_not (by omega)]; simp), hu, D.unit_pre] at a0
  have aS : ∀ i, 1 ≤ i → i + 1 < D.f.length → addM [D.buf (pre D.f.length i) (now + 12)] D.src D.dst (gt D.f i) now = ([D.buf (pre D.f.length (i + 1)) (now + 12)], [], 0) := fun i h1 h2 => by
    rw [D.hit1 (D.St_pre ⟨h1, by omega⟩ tu) (by omega) tn (by omega), pre_set, if_neg (by rw [pre_not (by omega)]; simp)]
  have aE : ∀ i, 1 ≤ i → i < D.f.length → addM [D.buf (pre D.f.length i) (now + 12)] D.src D.dst (gt D.f (D.f.length - 1)) (now + (12 + w)) = ([D.buf (D.unit (D.f.length - 1)) (min (now + (12 + w) + 12) 1099511627776)], [], 0) := fun i h1 h2 => by
    rw [D.gone1 (D.St_pre ⟨h1, by omega⟩ tu) (by omega) tw (by omega), D.new0 tw (by omega), if_neg (by rw [D.unit_not (by omega)]; simp)]
  have aX := fun i h1 h2 => D.exp1 (D.St_pre (i := i) ⟨h1, h2⟩ tu) (now := now + (12 + w)) (by omega) tw
  have sP := fun i h1 h2 => D.siz1 (D.St_pre (i := i) ⟨h1, h2⟩ tu)
  have dl := fun k hk => D.dlen (k := k) hk
  rw [e1, e2, e4] at a0
  simp only [e1, e2, e4] at aS aE
  rw [e4] at dl aX sP
  generalize cutB b 5 = F at *
  have c0 := k_xAdd [] .no siz_nil (dev 1) (dev 2) (gt F 0) (by have := dl 0 (by omega); omega) now
  rw [a0] at c0
  repeat' (first | ((first | ((with_reducible apply Nm.mk); focus ((try simp only [lns]); exact rfl)) | ((with_reducible apply Need.mk); focus first | (simp only [lns]; omega) | kernel_rfl) | ((with_reducible apply Elem.lst); focus omega) | (apply CallN.mk (cc)) | (apply CallN.mk (cs)) | (apply CallN.mk (cd1)) | (apply CallN.mk (cd2)) | (apply CallN.le (c0); focus ((repeat' (first | (with_reducible apply ArgLe.nil) | (exact ArgLe.nil) | (exact ArgLe.rfl) | (exact ArgLe.fs) | (exact True.intro) | (apply And.intro) | fail)); done)) | (with_reducible apply Frz.l)) <;> conv => whnf) | fail)
  refine loop_keep ttok mixed (T0 := 1125899908931343) [3, 10, 11] (ι := LatI F.length)
    (fun p => [(12, .fs .no 10 (lst bufV [D.buf (pre F.length p.i) (now + 12)])), (14, int 0), (15, int (p.i : Int))]) (fun p => [.cells (tape l k1)]) (fun p => F.length - p.i) ⟨1, by omega⟩ ?_
  conv => whnf
  repeat' (first | ((first | (with_reducible apply Same.rfl) | (apply Same.int; focus rfl) | (with_reducible apply Frz.l)) <;> conv => whnf) | fail)
  rintro ⟨i, hi⟩
  dsimp only
  conv => whnf
  by_cases hi1 : i + 1 < F.length
  · have ci := k_xAdd [D.buf (pre F.length i) (now + 12)] .no (sP i (by omega) (by omega)) (dev 1) (dev 2) (gt F i) (by have := dl i (by omega); omega) now
    rw [aS i (by omega) (by omega)] at ci
    repeat' (first | ((first | ((with_reducible apply Nm.mk); focus ((try simp only [lns]); exact rfl)) | ((with_reducible apply Wr.i64); focus omega) | ((with_reducible apply Need.mk); focus first | (simp only [lns]; omega) | kernel_rfl) | ((with_reducible apply Elem.lst); focus omega) | (apply CallN.mk (cd1)) | (apply CallN.mk (cd2)) | (apply CallN.mk (ci)) | (with_reducible apply Bif.T) | ((with_reducible first | apply Bif.dec | apply Bif.beq) <;> intro h <;> (try simp only [lns] at h) <;> (try (exfalso; omega))) | (with_reducible apply Frz.l)) <;> conv => whnf) | fail)
    (refine ⟨⟨i + 1, by omega⟩, ?_⟩; (try dsimp only); conv => whnf); repeat' (first | with_reducible apply True.intro | ((apply Same.mk rfl); (conv => whnf)) | ((first | ((with_reducible apply Need.mk); focus omega) | (with_reducible apply Turn.l) | (with_reducible apply Frz.l)) <;> conv => whnf) | fail)
  · have cx := k_xExpire [D.buf (pre F.length i) (now + 12)] .no (sP i (by omega) (by omega)) (now + (12 + w))
    have ci := k_xAdd [D.buf (pre F.length i) (now + 12)] .no (sP i (by omega) (by omega)) (dev 1) (dev 2) (gt F (F.length - 1)) (by have := dl (F.length - 1) (by omega); omega) (now + (12 + w))
    rw [aE i (by omega) (by omega)] at ci
    rw [aX i (by omega) (by omega)] at cx
    have eN : ((F.length : Int) - 1).toNat = F.length - 1 := by omega
    repeat' (first | with_reducible apply True.intro | ((first | ((with_reducible apply Nm.mk); focus ((try simp only [lns, eN]); exact rfl)) | ((with_reducible apply Wr.i64); focus omega) | ((with_reducible apply Need.mk); focus first | (simp only [lns, eN]; omega) | kernel_rfl) | ((with_reducible apply Elem.lst); focus omega) | (apply CallN.mk (cK)) | (apply CallN.mk (cl)) | (apply CallN.mk (cd1)) | (apply CallN.mk (cd2)) | (apply CallN.mk (ci)) | (apply CallN.mk (cx)) | (with_reducible apply Bif.T) | ((with_reducible first | apply Bif.dec | apply Bif.beq) <;> intro h <;> (try simp only [lns, eN] at h) <;> (try (exfalso; omega))) | (apply Same.rfl) | (with_reducible apply Frz.l)) <;> conv => whnf) | fail)
end Go.Fw
