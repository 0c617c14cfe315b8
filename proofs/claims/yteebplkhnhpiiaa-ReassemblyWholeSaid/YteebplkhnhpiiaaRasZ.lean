/- ReassemblyWhole: the law's form with the reach of its arguments; plain law and walk. -/
import Derived.Test.YteebplkhnhpiiaaRasY
import Derived.SizedLaws
namespace Go.Fw
open Go.Proofs
open Go.ChangeShapes Go.RowKit Go.WideElems
set_option maxHeartbeats 8000000
set_option maxRecDepth 4000
section
variable {H : Type} {enc : TypeId × Value → H} {P : Program} {TT : Nat → TI} {w : World} {base : Nat}
theorem trodAll_get : ∀ {ts : List Nat} {vs : List Value} {ds : List (DataW H)} {ps : List MemPlace} {j t : Nat}, DataW.TrodAll enc P w 0 (fun _ => true) true ts vs ds ps → ts[j]? = some t →
    ∃ v d p, vs[j]? = some v ∧ ds[j]? = some d ∧ DataW.Trod enc P w 0 (fun _ => true) true t v d p
  | [], _, _, _, _, _, _, hj => by simp at hj
  | _ :: _, [], ds, _, _, _, h, _ => by cases ds <;> exact h.elim
  | _ :: _, _ :: _, [], _, _, _, h, _ => h.elim
  | t0 :: ts, v0 :: vs, d0 :: ds, ps, j, t, h, hj => by
    obtain ⟨p, q, h1, h2, _⟩ := h
    cases j with
    | zero =>
      simp at hj; subst hj
      exact ⟨v0, d0, p, rfl, rfl, h1⟩
    | succ j =>
      obtain ⟨v, d, p', e1, e2, e3⟩ := trodAll_get h2 (by simpa using hj)
      exact ⟨v, d, p', by simpa using e1, by simpa using e2, e3⟩
theorem relVL_get {cx : Cx} : ∀ {ss : List SV} {vs : List Value} {j : Nat} {s : SV}, RelVL cx w ss vs → ss[j]? = some s → ∃ v, vs[j]? = some v ∧ RelV1 cx w s v
  | _, _, _, _, .nil, hj => by simp at hj
  | _, _, 0, _, .cons (v := v) h _, hj => by
    simp at hj; subst hj
    exact ⟨v, rfl, h⟩
  | _, _, j + 1, _, .cons _ h, hj => by
    obtain ⟨v, h1, h2⟩ := relVL_get (j := j) h (by simpa using hj)
    exact ⟨v, by simpa using h1, h2⟩
theorem sized_svs {ts : List Nat} {vs : List Value} {ds gs : List (DataW H)} {us : List Nat} {ps : List MemPlace} {svs : List SV} {cx : Cx} (hsz : (DataW.weightsEach P (ts ++ us) (ds ++ gs)).all (· ≤ reachBytes) = true) (hA : DataW.TrodAll enc P w 0 (fun _ => true) true ts vs ds ps) (hrel : RelVL cx w svs vs) :
    ∀ (j t e : Nat) (E : Nat) (tg : Tg) (rows : List SV), ts[j]? = some t → P.underlying t = some (.slice e) → svs[j]? = some (.fs tg E rows) → rows.length * P.bytesOf e ≤ reachBytes := by
  intro j t e E tg rows hj hu hs
  obtain ⟨v, d, p, h1, h2, ⟨fuel, h3⟩⟩ := trodAll_get hA hj
  obtain ⟨v', h4, h5⟩ := relVL_get hrel hs
  rw [h1] at h4
  cases h4
  have hjl : j < ts.length := (List.getElem?_eq_some_iff.1 hj).1
  have hdl : j < ds.length := (List.getElem?_eq_some_iff.1 h2).1
  rcases DataW.trod_slice hu h3 with ⟨hc, _⟩ | ⟨a, len, cap, elems, rest, n, _, hc, hx, _, _, _, hel, _⟩
  · have h5 : RelC cx w (.fs tg E rows) [v] := h5
    have hn : rows = [] := by
      cases h5 with
      | fs0 => rfl
      | fs => simp [Value.cells] at hc
    rw [hn]; simp
  · have hd : d = .slice (elems.map (·.1)) (rest.map (·.1)) := by
      have := congrArg Prod.fst hx
      simpa using this
    have h6 := sized_slice (P := P) hsz (j := j) (t := t) (e := e) (by rw [List.getElem?_append_left hjl]; exact hj) (by rw [List.getElem?_append_left hdl, h2, hd]) hu
    rw [List.length_map, List.length_map, hel] at h6
    have h5 : RelC cx w (.fs tg E rows) [v] := h5
    have hn : rows.length ≤ len := by
      cases h5 with
      | fs0 => simp
      | fs =>
        simp [Value.cells] at hc
        omega
    exact Nat.le_trans (Nat.mul_le_mul_right _ (by omega)) h6
theorem lift_law_sz {C : Checked} {os : Os} {f : FuncId} {fn : Func} {s : ChangeSpec} {conds : List PathCond} {apart fresh handsOn again : Bool} {a : Assume} {tb : TypeId}
    (own : ownKnob C.prog.godebug = none) (started : os.Started) (noInit : C.prog.inits.idxOf? f = none) (hfn : C.prog.funcs[f]? = some fn)
    (witness : ∃ (w : World) (tape : Tape) (i : Input), w.os = os ∧ (w.forCall tape i).Shaped C.prog ∧ i.vars = [] ∧ Input.okWide C.prog (w.forCall tape i) .any w.heap.size f i ∧
      s.pre6 enc C.prog fn conds apart (w.forCall tape i).memory i.args ∧ a.holds C.prog (lone (Frame.enter C.prog f i.args .normal) [] (w.forCall tape i)))
    (hl : laidOutB C.prog = true) (hvars : s.vars = []) (hspec : ∀ ds : List (DataW H), ds.length = fn.params.size → (s.fn H ds).results = [.lit (.bool true)] ∧ (s.fn H ds).args = ds ∧ (s.fn H ds).vars = [])
    (hres : fn.resultTypes = #[tb]) (htb : C.prog.underlying tb = some .bool) (hread : (fn.params.toList.all fun t => C.prog.readableRec t && Nat.blt t C.prog.types.size) = true)
    (hT : TTok C.prog TT) (d : Nat) (hdeep : (fn.params.toList.all (deepT C.prog TT d)) = true)
    (hgl : ∀ g, glob g = none)
    (hent : (!(fn.name == "runtime.NumGoroutine") && !fn.body.isNone) = true)
    (hcon : ∀ svs, ShpL C.prog TT d fn.params.toList svs → (∀ (j t e : Nat) (E : Nat) (tg : Tg) (rows : List SV), fn.params.toList[j]? = some t → C.prog.underlying t = some (.slice e) → svs[j]? = some (.fs tg E rows) → rows.length * C.prog.bytesOf e ≤ reachBytes) → Con C.prog f svs [] (.v (.bool true)) []) :
    ReturnsInHanded a C os f .any (s.pre6 enc C.prog fn conds apart) (s.post enc C.prog fn apart fresh handsOn again) := by
  refine returnsInHanded_of_change_sized own started noInit hfn witness ?_
  have hE : Enters C.prog f := ⟨fn, hfn, by simp only [Bool.and_eq_true, Bool.not_eq_true'] at hent; exact hent.1, by simp only [Bool.and_eq_true, Bool.not_eq_true'] at hent; exact hent.2⟩
  have hread : ∀ t ∈ fn.params.toList, C.prog.readableRec t = true ∧ t < C.prog.types.size := fun t ht => by
    have := List.all_eq_true.1 hread t ht
    simp only [Bool.and_eq_true] at this
    exact ⟨this.1, by simpa using this.2⟩
  have hdeep : ∀ t ∈ fn.params.toList, deepT C.prog TT d t = true := List.all_eq_true.1 hdeep
  intro W b0 args ds gs before hval hW _ hsz _
  have hW' := hW
  obtain ⟨p, q, hA, hV, hps, _, _⟩ := hW
  rw [hvars] at hV
  have hgs : gs = [] ∧ q = [] := by
    cases gs with
    | nil => exact ⟨rfl, hV⟩
    | cons => exact hV.elim
  obtain ⟨rfl, rfl⟩ := hgs
  have hlen := trodAll_len _ _ _ _ hA
  obtain ⟨h1, h2, h3⟩ := hspec ds (by simpa using hlen)
  obtain ⟨svs, hsh, hrel⟩ := open_all hT d _ _ _ _ hdeep hA (fun j t v hj hv => hval j t v (by simpa using hj) (by simpa using hv))
  have hlt : ∀ x ∈ p, x.block < W.heap.size := fun x hx => hW'.lt x (by rw [hps]; simp [hx])
  refine (lift_bool2 hE (Glob.none hgl) (hcon svs hsh (sized_svs hsz hA hrel)) hrel).mono fun e W' ⟨he, hg, hsame⟩ => ?_
  subst he
  refine ⟨_, rfl, post_of_same (pa := p) (pv := []) hW' ?_ ?_ ?_ hps (hg.frame _) hg.2.1 (ok_one hres rfl (okWide_bool_mk htb _))⟩
  · intro b sp hd
    rw [hres, List.append_nil, h1]
    exact trodAll_cons_mk (shut_bool htb _) trodAll_mk0
  · intro sp hsp
    rw [List.append_nil, h2]
    refine trodAll_stays hl _ _ _ _ hread hA (fun x hx => ?_) (fun x hx => hsp x (by rw [hps]; simp [hx]))
    have := hsame x.block (hlt x hx)
    cases x with
    | cell b off => simp only [World.sameAt, World.cell?]; rw [show W'.heap[b]? = W.heap[b]? from this]
    | map b => exact this
  · intro sp _
    rw [hvars, List.append_nil, h3]
    rfl
end
/-- How many were not seen. -/
def cntF (s : List Bool) : Nat := s.count false
theorem cntF_zero {s : List Bool} : cntF s = 0 ↔ s.all id = true := by
  rw [cntF, List.count_eq_zero, List.all_eq_true]
  constructor
  · intro h x hx
    cases x with
    | false => exact absurd hx h
    | true => rfl
  · intro h hc
    exact absurd (h false hc) (by decide)
theorem cntF_set {s : List Bool} {k : Nat} (hk : k < s.length) (h : gt s k = false) : cntF (s.set k true) + 1 = cntF s := by
  induction s generalizing k with
  | nil => simp at hk
  | cons x r ih =>
    cases k with
    | zero =>
      have : x = false := h
      subst this
      simp [cntF]
    | succ k =>
      have := ih (k := k) (by simpa using hk) h
      unfold cntF at *
      rw [List.set_cons_succ, List.count_cons, List.count_cons]
      omega
theorem cntF_le (s : List Bool) : cntF s ≤ s.length := List.count_le_length
theorem set_same {s : List Bool} {k : Nat} (hk : k < s.length) (h : gt s k = true) : s.set k true = s := by
  rw [gt_eq hk] at h
  rw [← h]; exact List.set_getElem_self hk
/-- Until when a buffer is kept. -/
def uN (L : List Buf) (u now : Int) : Int := if L.length = 0 then min (now + 12) 1099511627776 else u
/-- What was seen, and what is kept of it. -/
structure WhL (D : Dat) (st : Int) (s : List Bool) (L : List Buf) (u : Int) : Prop where
  len : s.length = D.f.length
  not_ : s.all id = false
  alt : (L = [] ∧ ∀ j : Nat, s[j]? ≠ some true) ∨ (L = [D.buf s u] ∧ D.St s u ∧ u > st + 11)
theorem WhL.siz {D : Dat} {st : Int} {s : List Bool} {L : List Buf} {u : Int} (h : WhL D st s L u) : sizL L := by
  rcases h.alt with ⟨rfl, _⟩ | ⟨rfl, h1, _⟩
  · exact siz_nil
  · exact D.siz1 h1
theorem whole_add {D : Dat} {st now u : Int} {s : List Bool} {L : List Buf} {k : Nat} (h : WhL D st s L u) (hst : 0 ≤ st ∧ st ≤ 1099511627763) (hn : st ≤ now ∧ now ≤ st + 11) (hk : k < D.f.length) :
    ((s.set k true).all id = true → addM L D.src D.dst (gt D.f k) now = ([], D.b, 0)) ∧
    ((s.set k true).all id = false → addM L D.src D.dst (gt D.f k) now = ([D.buf (s.set k true) (uN L u now)], [], 0) ∧ WhL D st (s.set k true) [D.buf (s.set k true) (uN L u now)] (uN L u now)) := by
  have tn : isTm now := ⟨by omega, by omega⟩
  rcases h.alt with ⟨rfl, h1⟩ | ⟨rfl, h1, h2⟩
  · have hs : s.set k true = D.unit k := by
      have : s = List.replicate D.f.length false := List.eq_replicate_iff.2 ⟨h.len, fun x hx => by
        obtain ⟨j, hj⟩ := List.mem_iff_getElem?.1 hx
        cases x with
        | false => rfl
        | true => exact absurd hj (h1 j)⟩
      rw [this]; rfl
    rw [hs, D.new0 tn hk]
    refine ⟨fun h => by rw [if_pos h], fun h => ?_⟩
    rw [if_neg (by rw [h]; simp)]
    refine ⟨rfl, D.unit_len k, h, .inr ⟨rfl, Dat.St.unit D hk tn h, ?_⟩⟩
    show min (now + 12) 1099511627776 > st + 11
    omega
  · rw [D.hit1 h1 (by omega) tn hk]
    refine ⟨fun h => by rw [if_pos h], fun h => ?_⟩
    rw [if_neg (by rw [h]; simp)]
    exact ⟨rfl, by rw [List.length_set]; exact h1.len, h, .inr ⟨rfl, Dat.St.set D h1 h, h2⟩⟩
theorem k_Mod2 (v : Int) : ∃ r hp', (∃ x : Int, r = int x ∧ hp' = [] ∧ 0 ≤ x ∧ x < 2) ∧ Con Try.prog 25 [int v, int 2] [] r hp' :=
  ⟨_, _, ⟨modV v 2, rfl, rfl, modV_range (by omega)⟩, k_made_Mod v 2 (by omega)⟩
theorem set_seen {s : List Bool} {n k : Nat} (hk : k < s.length) (h : ∀ j : Nat, j + n < n + k → s[j]? = some true) : ∀ j : Nat, j + n < n + k + 1 → (s.set k true)[j]? = some true := fun j hj => by
  rw [List.getElem?_set]
  split
  · rfl
  · exact h j (by omega)
structure WhI (D : Dat) (n : Nat) (st : Int) where
  i : Nat
  now : Int
  s : List Bool
  L : List Buf
  u : Int
  hi : i ≤ n + D.f.length
  hn : st ≤ now ∧ now ≤ st + 11
  hL : WhL D st s L u
  hs : ∀ j : Nat, j + n < i → s[j]? = some true
theorem k_ReassemblyWhole (t : List Int) (n : Int) (O : List Int) (start : Int) (hO : O.length ≤ 17592186044416) : Con Try.prog 5 [.fs .no 1 (ints t), int n, .fs .no 1 (ints O), int start] [] (bool true) [] := by
  have ht : (t.take 400).length ≤ 400 := by simp; omega
  generalize hT : t.take 400 = l at ht
  have hN := k_made_New t
  rw [hT] at hN
  have cn := k_made_Mod n 60 (by omega)
  have hn := modV_range (v := n) (n := 60) (by omega)
  have cs := k_made_Mod start 1099511627764 (by omega)
  have hs := modV_range (v := start) (n := 1099511627764) (by omega)
  generalize modV n 60 = m at *
  generalize modV start 1099511627764 = st at *
  have cd1 := k_device 1 (by omega)
  have cd2 := k_device 2 (by omega)
  have cK := k_known
  refine spec_of_run ttok mixed (T0 := 332307791228005226632843510549577487) (ts := [.tmp 8]) 120 rfl rfl rfl rfl (by simp) rfl ?_
  conv => whnf
  repeat' (first | ((first | ((with_reducible apply Wr.i64); focus omega) | (apply CallN.mk (hN)) | (apply CallN.mk (cn)) | (with_reducible apply Frz.l)) <;> conv => whnf) | fail)
  obtain ⟨q, hq⟩ : ∃ q : Nat, 1 + m = q := ⟨(1 + m).toNat, by omega⟩
  rw [hq]
  repeat' (first | ((first | (refine CallN.ex (k_Fill l _ q (by omega) ht (by omega)) ?_; rintro _ _ ⟨b, k1, rfl, rfl, hb, hk1⟩) | (with_reducible apply Frz.l)) <;> conv => whnf) | fail)
  have cc := k_cut b 5 .no (by omega)
  have hch := spF_chn (room := 13) (tag := 5) (b := b) (by omega) (by omega) b.length 0 (by omega) (by omega) (by omega)
  have h3 := spF_len (room := 13) (tag := 5) (b := b) (by omega) b.length 0
  obtain ⟨D, e1, e2, e3, e4⟩ : ∃ D : Dat, D.src = dev 1 ∧ D.dst = dev 2 ∧ D.b = b ∧ D.f = cutB b 5 := ⟨⟨dev 1, dev 2, 5, b, cutB b 5, by decide, by decide, by omega, hch⟩, rfl, rfl, rfl, rfl⟩
  have hDl : D.f.length ≤ 100 := by rw [e4]; exact Nat.le_trans h3 (by omega)
  have hD0 := D.pos
  have cS := k_octSame b b .no .no (by omega)
  rw [decide_eq_true rfl] at cS
  rw [← e4] at cc
  repeat' (first | ((first | (with_reducible apply Nm.rep _ (bool_mk _)) | ((with_reducible apply Nm.mk); focus ((try simp only [lns]); exact rfl)) | ((with_reducible apply Wr.i64); focus omega) | ((with_reducible apply Need.mk); focus (unfold roomOK; simp only [lns]; omega)) | (apply CallN.mk (cc)) | (apply CallN.mk (cs)) | (with_reducible apply Frz.l)) <;> conv => whnf) | fail)
  refine LoopN.nilS 15 10 rfl ?_
  refine loop_keep ttok mixed (T0 := 332307791228005226632843510549577487) [2, 9, 10, 12] (ι := WhI D O.length st)
    (fun p => [(11, int p.now), (13, .ov 1 1 0 D.f.length), (14, int (cntF p.s : Int)), (15, .fs .no 10 (lst bufV p.L)), (16, int (p.i : Int))]) (fun p => [.cells (tape l k1), .arr (some D.f.length) 1 (lst bool p.s)]) (fun p => O.length + D.f.length - p.i) ⟨0, st, List.replicate D.f.length false, [], 0, by omega, by omega, ⟨by simp, not_all (j := 0) (by rw [List.getElem?_replicate, if_pos hD0]), .inl ⟨rfl, fun j h => by rw [List.getElem?_replicate] at h; split at h <;> simp at h⟩⟩, fun j h => absurd h (by omega)⟩ ?_
  conv => whnf
  have hcr : cntF (List.replicate D.f.length false) = D.f.length := by simp [cntF]
  repeat' (first | ((apply Same.mk (by show SV.v _ = SV.v _; rw [hcr])); (conv => whnf)) | ((first | (with_reducible apply Same.rfl) | (apply Same.int; focus rfl) | (apply Same.rfl) | (with_reducible apply Frz.l)) <;> conv => whnf) | fail)
  rintro ⟨i, now, s, L, u, hi, hw, hL, hsn⟩
  dsimp only
  conv => whnf
  have hsl := hL.len
  have hcl := cntF_le s
  have hc0 : 0 < cntF s := by
    rcases Nat.eq_zero_or_pos (cntF s) with h | h
    · have := cntF_zero.1 h
      rw [hL.not_] at this; cases this
    · exact h
  by_cases hi1 : i < O.length + D.f.length
  · by_cases hi2 : i < O.length
    · have ck := k_made_Mod (gt O i) D.f.length (by omega)
      have hk := modV_range (v := gt O i) (n := D.f.length) (by omega)
      obtain ⟨k, hkk⟩ : ∃ k : Nat, modV (gt O i) D.f.length = k := ⟨(modV (gt O i) D.f.length).toNat, by omega⟩
      rw [hkk] at ck hk
      repeat' (first | ((with_reducible apply Wr.i64); (focus omega); (conv => whnf)) | ((with_reducible apply Wr.mk); (conv => whnf)) | ((first | (with_reducible apply Nm.set _ (bool_mk _)) | ((with_reducible apply Nm.mk); focus ((try simp only [lns]); exact rfl)) | ((with_reducible apply Need.mk); focus first | omega | (simp only [lns]; omega)) | ((with_reducible apply Elem.lst); focus omega) | (apply CallN.mk (ck)) | (refine CallN.ex (k_Mod2 _) ?_; rintro _ _ ⟨x, rfl, rfl, hx1, hx2⟩) | (apply CallN.mk (cd1)) | (apply CallN.mk (cd2)) | ((with_reducible apply Bif.dec) <;> intro h <;> (try simp only [lns] at h) <;> (try (exfalso; omega))) | (with_reducible apply Bif.not) | ((with_reducible apply Bif.mk) <;> intro h) | (with_reducible apply Frz.l)) <;> conv => whnf) | fail)
      all_goals obtain ⟨nw, hnw⟩ : ∃ y, min (now + x) (st + 12 - 1) = y := ⟨_, rfl⟩
      all_goals rw [hnw]
      all_goals have hnb : st ≤ nw ∧ nw ≤ st + 11 := by omega
      all_goals have hkl : k < s.length := by omega
      all_goals have hst : 0 ≤ st ∧ st ≤ 1099511627763 := ⟨by omega, by omega⟩
      all_goals obtain ⟨w1, w2⟩ := whole_add (k := k) hL hst (now := nw) (by omega) (by omega)
      all_goals have ci := k_xAdd L .no hL.siz (dev 1) (dev 2) (gt D.f k) (by have := D.dlen (k := k) (by omega); omega) nw
      · have hss := set_same hkl h
        rw [hss] at w2
        obtain ⟨w3, w4⟩ := w2 hL.not_
        rw [← e1, ← e2, w3, e1, e2] at ci
        generalize uN L u nw = u2 at *
        repeat' (first | ((first | ((with_reducible apply Nm.mk); focus ((try simp only [lns]); exact rfl)) | ((with_reducible apply Wr.i64); focus omega) | ((with_reducible apply Need.mk); focus kernel_rfl) | (apply CallN.mk (ci)) | (with_reducible apply Bif.F) | ((with_reducible first | apply Bif.dec | apply Bif.beq | apply Bif.bne) <;> intro h <;> (try simp only [lns] at h) <;> (try (exfalso; omega))) | (with_reducible apply Frz.l)) <;> conv => whnf) | fail)
        (refine ⟨⟨i + 1, nw, s, [D.buf s u2], u2, by omega, by omega, w4, fun j hj => by exfalso; omega⟩, ?_⟩; (try dsimp only); conv => whnf); repeat' (first | with_reducible apply True.intro | ((apply Same.mk rfl); (conv => whnf)) | ((first | ((with_reducible apply Need.mk); focus omega) | (with_reducible apply Turn.l) | (with_reducible apply Frz.l)) <;> conv => whnf) | fail)
      · have hcs := cntF_set hkl h
        by_cases hz : cntF (s.set k true) = 0
        · have w3 := w1 (cntF_zero.1 hz)
          rw [← e1, ← e2, w3, e1, e2, e3] at ci
          repeat' (first | with_reducible apply True.intro | ((first | ((with_reducible apply Nm.mk); focus ((try simp only [lns]); exact rfl)) | ((with_reducible apply Need.mk); focus kernel_rfl) | (apply CallN.mk (ci)) | (apply CallN.mk (cK)) | (apply CallN.mk (cS)) | (with_reducible apply Bif.T) | ((with_reducible first | apply Bif.beq | apply Bif.bne) <;> intro h <;> (try simp only [lns] at h) <;> (try (exfalso; omega))) | (apply Same.rfl) | (with_reducible apply Frz.l)) <;> conv => whnf) | fail)
        · obtain ⟨w3, w4⟩ := w2 (by
            rw [Bool.eq_false_iff]
            exact fun hc => hz (cntF_zero.2 hc))
          rw [← e1, ← e2, w3, e1, e2] at ci
          have eC : ((cntF s : Nat) : Int) - 1 = (cntF (s.set k true) : Int) := by omega
          generalize uN L u nw = u2 at *
          repeat' (first | ((first | ((with_reducible apply Nm.mk); focus ((try simp only [lns, eC]); exact rfl)) | ((with_reducible apply Wr.i64); focus omega) | ((with_reducible apply Need.mk); focus kernel_rfl) | (apply CallN.mk (ci)) | (with_reducible apply Bif.F) | ((with_reducible first | apply Bif.dec | apply Bif.beq | apply Bif.bne) <;> intro h <;> (try simp only [lns, eC] at h) <;> (try (exfalso; omega))) | (with_reducible apply Frz.l)) <;> conv => whnf) | fail)
          (refine ⟨⟨i + 1, nw, s.set k true, [D.buf (s.set k true) u2], u2, by omega, by omega, w4, fun j hj => by exfalso; omega⟩, ?_⟩; (try dsimp only); conv => whnf); repeat' (first | with_reducible apply True.intro | ((apply Same.mk rfl); (conv => whnf)) | ((apply Same.mk (by show SV.v _ = SV.v _; rw [← eC])); (conv => whnf)) | ((first | ((with_reducible apply Need.mk); focus omega) | (with_reducible apply Turn.l) | (with_reducible apply Frz.l)) <;> conv => whnf) | fail)
    · obtain ⟨k, hkk⟩ : ∃ k : Nat, i = O.length + k := ⟨i - O.length, by omega⟩
      subst hkk
      have eK : ((O.length + k : Nat) : Int) - (O.length : Int) = (k : Int) := by omega
      repeat' (first | ((first | (with_reducible apply Nm.set _ (bool_mk _)) | ((with_reducible apply Nm.mk); focus ((try simp only [lns, eK]); exact rfl)) | ((with_reducible apply Wr.i64); focus omega) | ((with_reducible apply Need.mk); focus first | omega | (simp only [lns, eK]; omega)) | ((with_reducible apply Elem.lst); focus omega) | (apply CallN.mk (cd1)) | (apply CallN.mk (cd2)) | ((with_reducible apply Bif.dec) <;> intro h <;> (try simp only [lns, eK] at h) <;> (try (exfalso; omega))) | (with_reducible apply Bif.not) | ((with_reducible apply Bif.mk) <;> intro h) | (with_reducible apply Frz.l)) <;> conv => whnf) | fail)
      all_goals have hkl : k < s.length := by omega
      all_goals have hst : 0 ≤ st ∧ st ≤ 1099511627763 := ⟨by omega, by omega⟩
      all_goals obtain ⟨w1, w2⟩ := whole_add (k := k) hL hst (now := now) (by omega) (by omega)
      all_goals have ci := k_xAdd L .no hL.siz (dev 1) (dev 2) (gt D.f k) (by have := D.dlen (k := k) (by omega); omega) now
      · have hss := set_same hkl h
        rw [hss] at w2
        obtain ⟨w3, w4⟩ := w2 hL.not_
        rw [← e1, ← e2, w3, e1, e2] at ci
        generalize uN L u now = u2 at *
        repeat' (first | ((first | ((with_reducible apply Nm.mk); focus ((try simp only [lns]); exact rfl)) | ((with_reducible apply Wr.i64); focus omega) | ((with_reducible apply Need.mk); focus kernel_rfl) | (apply CallN.mk (ci)) | (with_reducible apply Bif.F) | ((with_reducible first | apply Bif.dec | apply Bif.beq | apply Bif.bne) <;> intro h <;> (try simp only [lns] at h) <;> (try (exfalso; omega))) | (with_reducible apply Frz.l)) <;> conv => whnf) | fail)
        (refine ⟨⟨O.length + k + 1, now, s, [D.buf s u2], u2, by omega, by omega, w4, fun j hj => by have := set_seen hkl hsn j hj; rwa [hss] at this⟩, ?_⟩; (try dsimp only); conv => whnf); repeat' (first | with_reducible apply True.intro | ((apply Same.mk rfl); (conv => whnf)) | ((first | ((with_reducible apply Need.mk); focus omega) | (with_reducible apply Turn.l) | (with_reducible apply Frz.l)) <;> conv => whnf) | fail)
      · have hcs := cntF_set hkl h
        by_cases hz : cntF (s.set k true) = 0
        · have w3 := w1 (cntF_zero.1 hz)
          rw [← e1, ← e2, w3, e1, e2, e3] at ci
          repeat' (first | with_reducible apply True.intro | ((first | ((with_reducible apply Nm.mk); focus ((try simp only [lns]); exact rfl)) | ((with_reducible apply Need.mk); focus kernel_rfl) | (apply CallN.mk (ci)) | (apply CallN.mk (cK)) | (apply CallN.mk (cS)) | (with_reducible apply Bif.T) | ((with_reducible first | apply Bif.beq | apply Bif.bne) <;> intro h <;> (try simp only [lns] at h) <;> (try (exfalso; omega))) | (apply Same.rfl) | (with_reducible apply Frz.l)) <;> conv => whnf) | fail)
        · obtain ⟨w3, w4⟩ := w2 (by
            rw [Bool.eq_false_iff]
            exact fun hc => hz (cntF_zero.2 hc))
          rw [← e1, ← e2, w3, e1, e2] at ci
          have eC : ((cntF s : Nat) : Int) - 1 = (cntF (s.set k true) : Int) := by omega
          generalize uN L u now = u2 at *
          repeat' (first | ((first | ((with_reducible apply Nm.mk); focus ((try simp only [lns, eC]); exact rfl)) | ((with_reducible apply Wr.i64); focus omega) | ((with_reducible apply Need.mk); focus kernel_rfl) | (apply CallN.mk (ci)) | (with_reducible apply Bif.F) | ((with_reducible first | apply Bif.dec | apply Bif.beq | apply Bif.bne) <;> intro h <;> (try simp only [lns, eC] at h) <;> (try (exfalso; omega))) | (with_reducible apply Frz.l)) <;> conv => whnf) | fail)
          (refine ⟨⟨O.length + k + 1, now, s.set k true, [D.buf (s.set k true) u2], u2, by omega, by omega, w4, fun j hj => by exact set_seen hkl hsn j hj⟩, ?_⟩; (try dsimp only); conv => whnf); repeat' (first | with_reducible apply True.intro | ((apply Same.mk rfl); (conv => whnf)) | ((apply Same.mk (by show SV.v _ = SV.v _; rw [← eC])); (conv => whnf)) | ((first | ((with_reducible apply Need.mk); focus omega) | (with_reducible apply Turn.l) | (with_reducible apply Frz.l)) <;> conv => whnf) | fail)
  · have hall : s.all id = true := by
      rw [List.all_eq_true]
      intro x hx
      obtain ⟨j, hj⟩ := List.mem_iff_getElem?.1 hx
      have hjl := (List.getElem?_eq_some_iff.1 hj).1
      have := hsn j (by omega)
      rw [hj] at this
      cases this; rfl
    rw [hL.not_] at hall
    cases hall
end Go.Fw
