/- Registries: the reference's Request. -/
import Derived.Test.YtmiicjoaaplklaaDetD
namespace Go.Fw
open Go.Proofs
set_option maxHeartbeats 4000000
structure RQ where
  out : List Clm
  st : Int
  kn : Bool
def stepR (now : Int) (ip : IP) (eui seq life : Int) (q : RQ) (c : Clm) : RQ :=
  if c.ip ≠ ip then ⟨q.out ++ [c], q.st, q.kn⟩
  else if c.eui ≠ eui then ⟨q.out ++ [c], 1, true⟩
  else if c.seq > seq then ⟨q.out ++ [c], 3, true⟩
  else if life = 0 then ⟨q.out, q.st, true⟩
  else ⟨q.out ++ [reqUpd c now seq life], q.st, true⟩
def foldR (now : Int) (ip : IP) (eui seq life : Int) (l : List Clm) : RQ := l.foldl (stepR now ip eui seq life) ⟨[], 0, false⟩
theorem foldR_step {now : Int} {ip : IP} {eui seq life : Int} {l : List Clm} {k : Nat} (hk : k < l.length) : foldR now ip eui seq life (l.take (k + 1)) = stepR now ip eui seq life (foldR now ip eui seq life (l.take k)) (gt l k) := by
  rw [foldR, take_gt hk, List.foldl_append]; rfl
theorem foldR_len (now : Int) (ip : IP) (eui seq life : Int) (l : List Clm) : (foldR now ip eui seq life l).out.length ≤ l.length := by
  have key : ∀ (l : List Clm) (q : RQ), (l.foldl (stepR now ip eui seq life) q).out.length ≤ q.out.length + l.length := by
    intro l
    induction l with
    | nil => intro q; simp
    | cons c l ih =>
      intro q
      have h1 := ih (stepR now ip eui seq life q c)
      have h2 : (stepR now ip eui seq life q c).out.length ≤ q.out.length + 1 := by
        unfold stepR
        (repeat' split) <;> simp
      simp only [List.foldl_cons, List.length_cons]
      omega
  have := key l ⟨[], 0, false⟩
  unfold foldR
  simpa using this
def refReqM (r : List Clm) (now : Int) (ip : IP) (eui seq life : Int) : List Clm × Int × Int :=
  if reqGood r now eui seq life then
    (if (foldR now ip eui seq life (cur r now)).kn = true ∨ life = 0 then ((foldR now ip eui seq life (cur r now)).out, (foldR now ip eui seq life (cur r now)).st, 0)
    else if (foldR now ip eui seq life (cur r now)).out.length = 64 then ((foldR now ip eui seq life (cur r now)).out, 2, 0)
    else (insM (foldR now ip eui seq life (cur r now)).out ⟨ip, eui, seq, now, min (now + life) 1099511627776⟩, 0, 0))
  else if validR r = true ∧ eui ≠ 0 then ([], 0, 2) else ([], 0, 1)
theorem k_refRequest (r : List Clm) (t : Tg) (now : Int) (ip : IP) (eui seq life : Int) (hl : r.length ≤ 100000) :
    Con Try.prog 37 [.fs t 20 (lst clmV r), int now, ipV ip, u64 eui, int seq, int life] [] (.tup [.ov 20 0 0 (refReqM r now ip eui seq life).1.length, int (refReqM r now ip eui seq life).2.1, int (refReqM r now ip eui seq life).2.2]) [.arr none 20 (lst clmV (refReqM r now ip eui seq life).1)] := by
  refine spec_of_run ttok mixed (T0 := 5106503035617307688782524735) (ts := [.tmp 12, .tmp 13, .tmp 14]) 104 rfl rfl rfl rfl (by simp) rfl ?_
  conv => whnf
  by_cases hg : reqGood r now eui seq life
  · obtain ⟨hv, h1, h2, h3, h4⟩ := hg
    have hv64 := validR_len hv
    have hcl := cur_len r now
    rw [show refReqM r now ip eui seq life = _ from if_pos ⟨hv, h1, h2, h3, h4⟩]
    have hfl := foldR_len now ip eui seq life (cur r now)
    have hcur := k_refCurrent r t now (by omega)
    generalize cur r now = cs at *
    repeat' (first | ((with_reducible apply Bif.tt hv); conv => whnf) | ((first | (apply CallN.mk (k_refValid r t (by omega))) | (apply CallN.mk (k_IsTime _)) | (apply CallN.mk (hcur)) | (with_reducible apply Bif.F) | ((with_reducible first | apply Bif.dec | apply Bif.beq) <;> intro h <;> (try simp only [lns] at h) <;> (try (exfalso; omega))) | (with_reducible apply Bif.not)) <;> conv => whnf) | fail)
    refine LoopN.adopt 15 20 rfl (by simp) ?_
    refine loop_keep ttok mixed (T0 := 5106503035617307688782524735) [1, 3, 4, 5, 8, 45, 46] (ι := {k : Nat // k ≤ cs.length})
      (fun k => [(15, .ov 20 2 0 (foldR now ip eui seq life (cs.take k.1)).out.length), (16, int (foldR now ip eui seq life (cs.take k.1)).st), (17, bool (foldR now ip eui seq life (cs.take k.1)).kn), (47, int (k.1 : Int))])
      (fun k => [.cells (ipV ip), .arr none 20 (lst clmV cs), .arr none 20 (lst clmV (foldR now ip eui seq life (cs.take k.1)).out)]) (fun k => cs.length - k.1) ⟨0, by omega⟩ ?_
    conv => whnf
    repeat' (first | ((first | (with_reducible apply Same.rfl) | (apply Same.int; focus rfl) | (apply Same.ov; (focus rfl); focus rfl) | (apply Same.rfl)) <;> conv => whnf) | fail)
    rintro ⟨k, hk⟩
    dsimp only
    have hko := foldR_len now ip eui seq life (cs.take k)
    rw [List.length_take] at hko
    conv => whnf
    by_cases hkl : k < cs.length
    · have hs := foldR_step (now := now) (ip := ip) (eui := eui) (seq := seq) (life := life) hkl
      generalize foldR now ip eui seq life (cs.take k) = q at *
      obtain ⟨o, st, kn⟩ := q
      dsimp only at hko ⊢
      by_cases c1 : (gt cs k).ip ≠ ip
      · have hs1 : foldR now ip eui seq life (cs.take (k + 1)) = ⟨o ++ [gt cs k], st, kn⟩ := by rw [hs, stepR, if_pos c1]
        have c1' : (!decide ((gt cs k).ip = ip)) = true := by simpa using c1
        repeat' (first | ((apply Bif.of (show _ = (!decide ((gt cs k).ip = ip)) from congrArg _ (ip_beq _ _))); (with_reducible apply Bif.tt c1'); (conv => whnf)) | ((first | (with_reducible apply Nm.snoc _ (clm_mk _ _ _ _ _)) | ((with_reducible apply Nm.mk); focus ((try simp only [lns]); exact rfl)) | ((with_reducible apply Wr.i64); focus omega) | ((with_reducible apply Need.mk); focus first | omega | (simp only [lns]; omega) | (unfold roomOK; simp only [lns]; omega)) | ((with_reducible apply Elem.lst); focus omega) | ((with_reducible apply Bif.dec) <;> intro h <;> (try simp only [lns] at h) <;> (try (exfalso; omega))) | (with_reducible apply Alt.l)) <;> conv => whnf) | fail)
        (refine ⟨⟨k + 1, by omega⟩, ?_⟩; (try dsimp only); conv => whnf); repeat' (first | with_reducible apply True.intro | ((with_reducible apply Same.mk); (focus (first | (simp only [hs1, List.length_append, List.length_cons, List.length_nil, Nat.zero_add]; done) | (simp only [hs1]; rfl))); (conv => whnf)) | ((first | ((with_reducible apply Need.mk); focus omega) | (apply Same.int; focus rfl) | (with_reducible apply Turn.l)) <;> conv => whnf) | fail)
      · have c1' : (!decide ((gt cs k).ip = ip)) = false := by simpa using c1
        rw [stepR, if_neg c1] at hs
        by_cases c2 : (gt cs k).eui ≠ eui
        · have hs1 : foldR now ip eui seq life (cs.take (k + 1)) = ⟨o ++ [gt cs k], 1, true⟩ := by rw [hs, if_pos c2]
          repeat' (first | ((apply Bif.of (show _ = (!decide ((gt cs k).ip = ip)) from congrArg _ (ip_beq _ _))); (with_reducible apply Bif.ff c1'); (conv => whnf)) | ((first | (with_reducible apply Nm.snoc _ (clm_mk _ _ _ _ _)) | ((with_reducible apply Nm.mk); focus ((try simp only [lns]); exact rfl)) | ((with_reducible apply Wr.i64); focus omega) | ((with_reducible apply Need.mk); focus first | omega | (simp only [lns]; omega) | (unfold roomOK; simp only [lns]; omega)) | ((with_reducible apply Elem.lst); focus omega) | ((with_reducible first | apply Bif.dec | apply Bif.bne) <;> intro h <;> (try simp only [lns] at h) <;> (try (exfalso; omega))) | (with_reducible apply Alt.l)) <;> conv => whnf) | fail)
          (refine ⟨⟨k + 1, by omega⟩, ?_⟩; (try dsimp only); conv => whnf); repeat' (first | with_reducible apply True.intro | ((with_reducible apply Same.mk); (focus (first | (simp only [hs1, List.length_append, List.length_cons, List.length_nil, Nat.zero_add]; done) | (simp only [hs1]; rfl))); (conv => whnf)) | ((first | ((with_reducible apply Need.mk); focus omega) | (apply Same.int; focus rfl) | (with_reducible apply Turn.l)) <;> conv => whnf) | fail)
        · rw [if_neg c2] at hs
          by_cases c3 : (gt cs k).seq > seq
          · have hs1 : foldR now ip eui seq life (cs.take (k + 1)) = ⟨o ++ [gt cs k], 3, true⟩ := by rw [hs, if_pos c3]
            repeat' (first | ((apply Bif.of (show _ = (!decide ((gt cs k).ip = ip)) from congrArg _ (ip_beq _ _))); (with_reducible apply Bif.ff c1'); (conv => whnf)) | ((first | (with_reducible apply Nm.snoc _ (clm_mk _ _ _ _ _)) | ((with_reducible apply Nm.mk); focus ((try simp only [lns]); exact rfl)) | ((with_reducible apply Wr.i64); focus omega) | ((with_reducible apply Need.mk); focus first | omega | (simp only [lns]; omega) | (unfold roomOK; simp only [lns]; omega)) | ((with_reducible apply Elem.lst); focus omega) | ((with_reducible first | apply Bif.dec | apply Bif.bne) <;> intro h <;> (try simp only [lns] at h) <;> (try (exfalso; omega))) | (with_reducible apply Alt.l)) <;> conv => whnf) | fail)
            (refine ⟨⟨k + 1, by omega⟩, ?_⟩; (try dsimp only); conv => whnf); repeat' (first | with_reducible apply True.intro | ((with_reducible apply Same.mk); (focus (first | (simp only [hs1, List.length_append, List.length_cons, List.length_nil, Nat.zero_add]; done) | (simp only [hs1]; rfl))); (conv => whnf)) | ((first | ((with_reducible apply Need.mk); focus omega) | (apply Same.int; focus rfl) | (with_reducible apply Turn.l)) <;> conv => whnf) | fail)
          · rw [if_neg c3] at hs
            by_cases c4 : life = 0
            · have hs1 : foldR now ip eui seq life (cs.take (k + 1)) = ⟨o, st, true⟩ := by rw [hs, if_pos c4]
              repeat' (first | ((apply Bif.of (show _ = (!decide ((gt cs k).ip = ip)) from congrArg _ (ip_beq _ _))); (with_reducible apply Bif.ff c1'); (conv => whnf)) | ((first | ((with_reducible apply Nm.mk); focus ((try simp only [lns]); exact rfl)) | ((with_reducible apply Wr.i64); focus omega) | ((with_reducible apply Need.mk); focus omega) | ((with_reducible apply Elem.lst); focus omega) | ((with_reducible first | apply Bif.dec | apply Bif.beq | apply Bif.bne) <;> intro h <;> (try simp only [lns] at h) <;> (try (exfalso; omega)))) <;> conv => whnf) | fail)
              (refine ⟨⟨k + 1, by omega⟩, ?_⟩; (try dsimp only); conv => whnf); repeat' (first | with_reducible apply True.intro | ((with_reducible apply Same.mk); (focus (first | (simp only [hs1, List.length_append, List.length_cons, List.length_nil, Nat.zero_add]; done) | (simp only [hs1]; rfl))); (conv => whnf)) | ((first | ((with_reducible apply Need.mk); focus omega) | (apply Same.int; focus rfl) | (with_reducible apply Turn.l)) <;> conv => whnf) | fail)
            · have hs1 : foldR now ip eui seq life (cs.take (k + 1)) = ⟨o ++ [reqUpd (gt cs k) now seq life], st, true⟩ := by rw [hs, if_neg c4]
              repeat' (first | ((apply Bif.of (show _ = (!decide ((gt cs k).ip = ip)) from congrArg _ (ip_beq _ _))); (with_reducible apply Bif.ff c1'); (conv => whnf)) | ((with_reducible apply Nm.snoc (f := clmV) (reqUpd (gt cs k) now seq life)); (focus rfl); (conv => whnf)) | ((first | ((with_reducible apply Nm.mk); focus ((try simp only [lns]); exact rfl)) | ((with_reducible apply Wr.i64); focus omega) | ((with_reducible apply Need.mk); focus first | omega | (simp only [lns]; omega) | kernel_rfl | (unfold roomOK; simp only [lns]; omega)) | ((with_reducible apply Elem.lst); focus omega) | (apply CallN.mk (k_After _ _ (by omega) (by omega))) | ((with_reducible first | apply Bif.dec | apply Bif.beq | apply Bif.bne) <;> intro h <;> (try simp only [lns] at h) <;> (try (exfalso; omega))) | (with_reducible apply Alt.l)) <;> conv => whnf) | fail)
              (refine ⟨⟨k + 1, by omega⟩, ?_⟩; (try dsimp only); conv => whnf); repeat' (first | with_reducible apply True.intro | ((with_reducible apply Same.mk); (focus (first | (simp only [hs1, List.length_append, List.length_cons, List.length_nil, Nat.zero_add]; done) | (simp only [hs1]; rfl))); (conv => whnf)) | ((first | ((with_reducible apply Need.mk); focus omega) | (apply Same.int; focus rfl) | (with_reducible apply Turn.l)) <;> conv => whnf) | fail)
    · have hkt : cs.take k = cs := List.take_of_length_le (by omega)
      rw [hkt] at hko ⊢
      generalize foldR now ip eui seq life cs = q at *
      obtain ⟨o, st, kn⟩ := q
      dsimp only at hko hfl ⊢
      by_cases c5 : kn = true ∨ life = 0
      · rw [if_pos c5]
        cases kn
        · have c6 : life = 0 := by simpa using c5
          repeat' (first | with_reducible apply True.intro | ((first | (with_reducible apply Bif.F) | ((with_reducible first | apply Bif.dec | apply Bif.beq) <;> intro h <;> (try simp only [lns] at h) <;> (try (exfalso; omega))) | (with_reducible apply Same.rfl) | (apply Same.int; focus rfl) | (with_reducible apply Cut.l)) <;> conv => whnf) | fail)
        · repeat' (first | with_reducible apply True.intro | ((first | (with_reducible apply Bif.T) | ((with_reducible apply Bif.dec) <;> intro h <;> (try simp only [lns] at h) <;> (try (exfalso; omega))) | (with_reducible apply Same.rfl) | (apply Same.int; focus rfl) | (with_reducible apply Cut.l)) <;> conv => whnf) | fail)
      · rw [if_neg c5]
        have c7 : kn = false := by cases kn <;> simp at c5 ⊢
        subst c7
        have c8 : ¬ life = 0 := fun h => c5 (.inr h)
        by_cases c6 : o.length = 64
        · rw [if_pos c6]
          repeat' (first | with_reducible apply True.intro | ((first | (with_reducible apply Bif.F) | ((with_reducible first | apply Bif.dec | apply Bif.beq) <;> intro h <;> (try simp only [lns] at h) <;> (try (exfalso; omega))) | (with_reducible apply Same.rfl) | (apply Same.int; focus rfl) | (with_reducible apply Cut.l)) <;> conv => whnf) | fail)
        · rw [if_neg c6]
          repeat' (first | with_reducible apply True.intro | ((first | ((with_reducible apply Nm.mk); focus ((try simp only [lns]); exact rfl)) | ((with_reducible apply Need.mk); focus first | (simp only [lns]; omega) | exact CleanP.lst rfl (fun _ => rfl) | kernel_rfl) | (apply CallN.mk (k_After _ _ (by omega) (by omega))) | (apply CallN.mk (k_refInsert o _ ⟨ip, eui, seq, now, min (now + life) 1099511627776⟩ (by omega))) | (with_reducible apply Bif.F) | ((with_reducible first | apply Bif.dec | apply Bif.beq) <;> intro h <;> (try simp only [lns] at h) <;> (try (exfalso; omega))) | (with_reducible apply Same.rfl) | (apply Same.int; focus rfl) | (with_reducible first | apply Cut.l | apply GiveN.lend)) <;> conv => whnf) | fail)
  · have em : refReqM r now ip eui seq life = _ := if_neg hg
    by_cases hv : validR r = true ∧ eui ≠ 0
    · rw [if_pos hv] at em
      rw [em]
      have hg2 : ¬ ((0 ≤ now ∧ now ≤ 1099511627776) ∧ (0 ≤ seq ∧ seq ≤ 1073741824) ∧ 0 ≤ life ∧ life ≤ 1099511627776) := fun h => hg ⟨hv.1, hv.2, h⟩
      clear em hg
      repeat' (first | with_reducible apply True.intro | ((with_reducible apply Bif.tt hv.1); conv => whnf) | ((first | (apply CallN.mk (k_refValid r t (by omega))) | (apply CallN.mk (k_IsTime _)) | (with_reducible first | apply Bif.T | apply Bif.F) | ((with_reducible first | apply Bif.dec | apply Bif.beq) <;> intro h <;> (try simp only [lns] at h) <;> (try (exfalso; omega))) | (with_reducible apply Bif.not) | (with_reducible apply Same.rfl) | (apply Same.int; focus rfl) | (apply Same.rfl)) <;> conv => whnf) | fail)
    · rw [if_neg hv] at em
      rw [em]
      clear em hg
      cases hv1 : validR r
      · repeat' (first | with_reducible apply True.intro | ((with_reducible apply Bif.ff hv1); conv => whnf) | ((first | (apply CallN.mk (k_refValid r t (by omega))) | (with_reducible apply Bif.T) | (with_reducible apply Bif.not) | (with_reducible apply Same.rfl) | (apply Same.int; focus rfl) | (apply Same.rfl)) <;> conv => whnf) | fail)
      · have he0 : eui = 0 := Decidable.not_not.1 fun h => hv ⟨hv1, h⟩
        repeat' (first | with_reducible apply True.intro | ((with_reducible apply Bif.tt hv1); conv => whnf) | ((first | (apply CallN.mk (k_refValid r t (by omega))) | (with_reducible apply Bif.F) | ((with_reducible apply Bif.beq) <;> intro h <;> (try simp only [lns] at h) <;> (try (exfalso; omega))) | (with_reducible apply Bif.not) | (with_reducible apply Same.rfl) | (apply Same.int; focus rfl) | (apply Same.rfl)) <;> conv => whnf) | fail)
end Go.Fw
