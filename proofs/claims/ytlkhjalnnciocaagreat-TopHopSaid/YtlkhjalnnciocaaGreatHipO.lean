/- IPHC: a compressed header, read again. -/
import Derived.Test.YtlkhjalnnciocaaGreatHipK

namespace Go.Fw
open Go.Proofs
set_option maxHeartbeats 8000000
set_option maxRecDepth 8000
theorem uniF_mode {a : IP} {e : Nat} {s : Bool} {l : List Cxt} {now : Int} (h0 : ¬ (s = true ∧ a = ip0)) (hc : (uniF a e s l now).ctx = true) : (uniF a e s l now).mode ≠ 0 := by
  by_cases hy : localI a = true ∨ (knownC l a now).isSome = true
  · rw [uniF_iid h0 hy, iidF]
    split
    · show (3 : Int) ≠ 0; decide
    · split
      · show (2 : Int) ≠ 0; decide
      · show (1 : Int) ≠ 0; decide
  · rw [uniF_no h0 (Bool.eq_false_iff.2 fun g => hy (.inl g)) (Bool.eq_false_iff.2 fun g => hy (.inr g))] at hc
    cases hc
theorem k_rGroupE (a : IP) (b : List UInt8) (at_ : Nat) (X : List UInt8) (h0 : gt a.1 0 = 255) (hd : b.drop at_ = (groupF a).bytes ++ X) (hb : b.length ≤ 10000) (mi : Int) (hmi : mi = (groupF a).mode) :
    Con Tryz.prog 163 [.pb 0 [], int mi] [.cells (rdV b at_)] (.tup [ipV a, int 0]) [.cells (rdV b (at_ + (groupF a).bytes.length))] := by
  subst hmi; exact k_rGroup a b at_ X h0 hd hb
theorem k_iDec (p : Pkt) (e0 e1 : Nat) (he0 : e0 ≤ 18446744073709551615) (he1 : e1 ≤ 18446744073709551615) (l : List Cxt) (now : Int) (h : VCx l) (hn : isTm now) (hl : l.length ≤ 1000) (hv : VP p) (X : List UInt8) (hX : X.length ≤ 4000) :
    Con Tryz.prog 84 [bys (hdM p e0 e1 l now ++ X), lnkV e0, lnkV e1, cxts l, int now] [] (.tup [pktH p, int ((hdM p e0 e1 l now).length : Int), int 0]) [] := by
  have cc := k_icheck e0 e1 l now h hn hl
  have fi := fun id => k_findM l id now
  have o0 : OkC (srcF p e0 l now) := uniF_ok h
  have o1 : OkC (dstF p e1 l now) := by unfold dstF; split; exact groupF_ok _; exact uniF_ok h
  have hfr := firstH_rng p
  have hil := inlF_len p
  have l0 := o0.len
  have l1 := o1.len
  obtain ⟨b128, b64, b16, b8', b4, b3⟩ := secF_bits (mcP p) _ _ o0 o1
  obtain ⟨i4, i15⟩ := ids_bits _ _ o0 o1
  have hsec : 0 ≤ secF (mcP p) (srcF p e0 l now) (dstF p e1 l now) ∧ secF (mcP p) (srcF p e0 l now) (dstF p e1 l now) ≤ 255 := by
    have m0 := o0.mode
    have m1 := o1.mode
    unfold secF; split <;> split <;> split <;> split <;> omega
  have hids : 0 ≤ idsF (srcF p e0 l now) (dstF p e1 l now) ∧ idsF (srcF p e0 l now) (dstF p e1 l now) ≤ 255 := by
    have m0 := o0.id
    have m1 := o1.id
    unfold idsF; omega
  have hbad : (dstF p e1 l now).ctx = true → mcP p = false ∧ (dstF p e1 l now).mode ≠ 0 := by
    intro g
    unfold dstF at g ⊢
    unfold mcP
    split at g
    · rw [groupF_ctx] at g; cases g
    · rename_i q
      rw [if_neg q]
      exact ⟨decide_eq_false q, uniF_mode (by simp) g⟩
  have cs := k_start (firstH p).toNat (secF (mcP p) (srcF p e0 l now) (dstF p e1 l now)).toNat (idsF (srcF p e0 l now) (dstF p e1 l now)).toNat (idsB (srcF p e0 l now) (dstF p e1 l now))
    (inlF p ++ ((srcF p e0 l now).bytes ++ ((dstF p e1 l now).bytes ++ X))) (by omega) (by omega) (by omega) (by simp only [List.length_append]; omega)
    (by
      rw [show (((secF (mcP p) (srcF p e0 l now) (dstF p e1 l now)).toNat : Nat) : Int) = secF (mcP p) (srcF p e0 l now) (dstF p e1 l now) by omega]
      cases hc : (dstF p e1 l now).ctx
      · left; rw [hc] at b4; simpa using b4
      · obtain ⟨q1, q2⟩ := hbad hc
        right; rw [q1] at b8' b3 ⊢; exact ⟨by simpa using b8', by rw [b3]; exact q2⟩)
    (by
      rw [show (((secF (mcP p) (srcF p e0 l now) (dstF p e1 l now)).toNat : Nat) : Int) = secF (mcP p) (srcF p e0 l now) (dstF p e1 l now) by omega]
      unfold idsB
      by_cases hi : idsF (srcF p e0 l now) (dstF p e1 l now) ≠ 0
      · right; rw [if_pos hi]; exact ⟨b128.2 hi, rfl⟩
      · left; rw [if_neg hi]; exact ⟨Decidable.byContradiction fun g => hi (b128.1 g), rfl, by omega⟩)
  rw [show (((secF (mcP p) (srcF p e0 l now) (dstF p e1 l now)).toNat : Nat) : Int) = secF (mcP p) (srcF p e0 l now) (dstF p e1 l now) by omega,
    show (((idsF (srcF p e0 l now) (dstF p e1 l now)).toNat : Nat) : Int) = idsF (srcF p e0 l now) (dstF p e1 l now) by omega,
    show (((firstH p).toNat : Nat) : Int) = firstH p by omega] at cs
  have eC : UInt8.ofNat (firstH p).toNat :: UInt8.ofNat (secF (mcP p) (srcF p e0 l now) (dstF p e1 l now)).toNat :: (idsB (srcF p e0 l now) (dstF p e1 l now) ++ (inlF p ++ ((srcF p e0 l now).bytes ++ ((dstF p e1 l now).bytes ++ X)))) = hdM p e0 e1 l now ++ X := by
    unfold hdM iphcM; simp
  rw [eC] at cs
  have hlen : (hdM p e0 e1 l now).length = 2 + (idsB (srcF p e0 l now) (dstF p e1 l now)).length + (inlF p).length + (srcF p e0 l now).bytes.length + (dstF p e1 l now).bytes.length := by
    unfold hdM iphcM; simp only [List.length_append, List.length_cons, List.length_nil]
  have hil2 : (idsB (srcF p e0 l now) (dstF p e1 l now)).length ≤ 1 := by unfold idsB; split <;> simp
  have hCl : (hdM p e0 e1 l now ++ X).length ≤ 10000 := by rw [List.length_append, hlen]; omega
  have d0 : (hdM p e0 e1 l now ++ X).drop (2 + (idsB (srcF p e0 l now) (dstF p e1 l now)).length) = inlF p ++ ((srcF p e0 l now).bytes ++ ((dstF p e1 l now).bytes ++ X)) := by
    rw [← eC, ← List.drop_drop]; exact List.drop_left
  have d1 : (hdM p e0 e1 l now ++ X).drop (2 + (idsB (srcF p e0 l now) (dstF p e1 l now)).length + (inlF p).length) = (srcF p e0 l now).bytes ++ ((dstF p e1 l now).bytes ++ X) := by
    rw [← List.drop_drop, d0]; exact List.drop_left
  have d2 : (hdM p e0 e1 l now ++ X).drop (2 + (idsB (srcF p e0 l now) (dstF p e1 l now)).length + (inlF p).length + (srcF p e0 l now).bytes.length) = (dstF p e1 l now).bytes ++ X := by
    rw [← List.drop_drop, d1]; exact List.drop_left
  have cf := k_rfields p hv _ _ _ d0 hCl
  have hsk : ¬ (true = true ∧ p.src = ip0) → andI (secF (mcP p) (srcF p e0 l now) (dstF p e1 l now)) 64 ≠ 0 → andI (shrI (secF (mcP p) (srcF p e0 l now) (dstF p e1 l now))) 3 = 0 → False := by
    intro q g1 g2
    rw [b16] at g2
    have : (srcF p e0 l now).ctx = true := by rw [← b64]; simpa using g1
    exact uniF_mode q this g2
  have u0 := fun (q : ¬ (true = true ∧ p.src = ip0)) (cb : Bool) (mi id' : Int) => k_rUniF p.src e0 he0 true l now h hn hl q hv.src _ _ _ hCl d1 cb mi id'
  have u1 := fun (q : gt p.dst.1 0 ≠ 255) (e : dstF p e1 l now = uniF p.dst e1 false l now) (cb : Bool) (mi id' : Int) => k_rUniF p.dst e1 he1 false l now h hn hl (by simp) q _ X _ hCl (by rw [← e]; exact d2) cb mi id'
  have g1 := fun (q : gt p.dst.1 0 = 255) (e : dstF p e1 l now = groupF p.dst) (mi : Int) => k_rGroupE p.dst _ _ X q (by rw [← e]; exact d2) hCl mi
  have eS : srcF p e0 l now = uniF p.src e0 true l now := rfl
  have hs0 : (true = true ∧ p.src = ip0) → (srcF p e0 l now).ctx = true ∧ (srcF p e0 l now).mode = 0 ∧ (srcF p e0 l now).bytes.length = 0 := by
    intro q; rw [eS, uniF, if_pos q]; exact ⟨rfl, rfl, rfl⟩
  have hmc : (gt p.dst.1 0 = 255 → dstF p e1 l now = groupF p.dst ∧ mcP p = true) ∧ (gt p.dst.1 0 ≠ 255 → dstF p e1 l now = uniF p.dst e1 false l now ∧ mcP p = false) :=
    ⟨fun q => ⟨if_pos q, decide_eq_true q⟩, fun q => ⟨if_neg q, decide_eq_false q⟩⟩
  rw [← eS] at u0
  have e3 : dstF p e1 l now = groupF p.dst → andI (secF (mcP p) (srcF p e0 l now) (dstF p e1 l now)) 3 = (groupF p.dst).mode := fun e => by rw [b3, e]
  clear hbad hsec hids b128 hfr hil l0 l1 o0 o1 d0 d1 d2 eC hil2 hX
  by_cases hs : true = true ∧ p.src = ip0
  · obtain ⟨q1, q2, q3⟩ := hs0 hs
    have hip : ipV p.src = ipV ip0 := by rw [hs.2]
    have k64 : andI (secF (mcP p) (srcF p e0 l now) (dstF p e1 l now)) 64 ≠ 0 := by rw [q1] at b64; simpa using b64
    have k16 : andI (shrI (secF (mcP p) (srcF p e0 l now) (dstF p e1 l now))) 3 = 0 := by rw [b16, q2]
    rw [q3] at u1 g1 hlen
    by_cases hm : gt p.dst.1 0 = 255
    · have hm := hm
      obtain ⟨r1, r2⟩ := hmc.1 hm
      have gg := g1 hm r1 _ (e3 r1)
      have k8 : andI (secF (mcP p) (srcF p e0 l now) (dstF p e1 l now)) 8 ≠ 0 := by rw [r2] at b8' ⊢; simpa using b8'
      refine spec_of_run ttok mixed (T0 := 20769187753296022049305262685159391) (ts := [.cell 10 107, .tmp 11, .tmp 12]) 122 rfl rfl rfl rfl (by simp) rfl ?_
      conv => whnf
      repeat' (first | with_reducible apply True.intro | ((apply Same.mk hip.symm); (conv => whnf)) | ((apply Same.mk (by rw [hlen, r1])); (conv => whnf)) | ((apply Same.mk rfl); (conv => whnf)) | ((first | ((with_reducible apply Need.mk); focus first | omega | kernel_rfl) | (apply CallN.mk (cc)) | (apply CallN.mk (cs)) | (apply CallN.mk (cf)) | (apply CallN.mk (gg)) | (with_reducible apply Bif.F) | ((with_reducible apply Bif.bne) <;> intro h <;> (try simp only [lns, beN_len, ipB_len] at h) <;> (try first | (exfalso; omega) | (exact absurd h k64) | (exact absurd k16 h) | (exact absurd h k8))) | (with_reducible apply Bif.not) | (with_reducible apply Frz.l)) <;> conv => whnf) | fail)
    · have hm := hm
      obtain ⟨r1, r2⟩ := hmc.2 hm
      have uu := u1 hm r1 (andI (secF (mcP p) (srcF p e0 l now) (dstF p e1 l now)) 4 != 0) (andI (secF (mcP p) (srcF p e0 l now) (dstF p e1 l now)) 3) (andI (idsF (srcF p e0 l now) (dstF p e1 l now)) 15) (by rw [b4, r1]) (by rw [b3, r1]) (by rw [i15, r1])
      have k8 : andI (secF (mcP p) (srcF p e0 l now) (dstF p e1 l now)) 8 = 0 := by rw [r2] at b8' ⊢; simpa using b8'
      refine spec_of_run ttok mixed (T0 := 20769187753296022049305262685159391) (ts := [.cell 10 107, .tmp 11, .tmp 12]) 122 rfl rfl rfl rfl (by simp) rfl ?_
      conv => whnf
      repeat' (first | with_reducible apply True.intro | ((apply Same.mk hip.symm); (conv => whnf)) | ((apply Same.mk (by rw [hlen, r1])); (conv => whnf)) | ((apply Same.mk rfl); (conv => whnf)) | ((first | ((with_reducible apply Need.mk); focus first | omega | kernel_rfl) | (apply CallN.mk (cc)) | (apply CallN.mk (cs)) | (apply CallN.mk (cf)) | (apply CallN.mk (fi _)) | (apply CallN.mk (uu)) | (with_reducible apply Bif.F) | ((with_reducible apply Bif.bne) <;> intro h <;> (try simp only [lns, beN_len, ipB_len] at h) <;> (try first | (exfalso; omega) | (exact absurd h k64) | (exact absurd k16 h) | (exact absurd k8 h))) | (with_reducible apply Bif.not) | (with_reducible apply Frz.l)) <;> conv => whnf) | fail)
  · have us := u0 hs (andI (secF (mcP p) (srcF p e0 l now) (dstF p e1 l now)) 64 != 0) (andI (shrI (secF (mcP p) (srcF p e0 l now) (dstF p e1 l now))) 3) (shrI (idsF (srcF p e0 l now) (dstF p e1 l now))) b64 b16 i4
    by_cases hm : gt p.dst.1 0 = 255
    · have hm := hm
      obtain ⟨r1, r2⟩ := hmc.1 hm
      have gg := g1 hm r1 _ (e3 r1)
      have k8 : andI (secF (mcP p) (srcF p e0 l now) (dstF p e1 l now)) 8 ≠ 0 := by rw [r2] at b8' ⊢; simpa using b8'
      refine spec_of_run ttok mixed (T0 := 20769187753296022049305262685159391) (ts := [.cell 10 107, .tmp 11, .tmp 12]) 122 rfl rfl rfl rfl (by simp) rfl ?_
      conv => whnf
      repeat' (first | with_reducible apply True.intro | ((apply Same.mk (by rw [hlen, r1])); (conv => whnf)) | ((apply Same.mk rfl); (conv => whnf)) | ((first | ((with_reducible apply Need.mk); focus first | omega | kernel_rfl) | (apply CallN.mk (cc)) | (apply CallN.mk (cs)) | (apply CallN.mk (cf)) | (apply CallN.mk (fi _)) | (apply CallN.mk (us)) | (apply CallN.mk (gg)) | (with_reducible first | apply Bif.T | apply Bif.F) | ((with_reducible apply Bif.bne) <;> intro h <;> (try simp only [lns, beN_len, ipB_len] at h) <;> (try first | (exfalso; omega) | (exact absurd h k8) | (exact (hsk hs (by assumption) h).elim))) | (with_reducible apply Bif.not) | (with_reducible apply Frz.l)) <;> conv => whnf) | fail)
    · have hm := hm
      obtain ⟨r1, r2⟩ := hmc.2 hm
      have uu := u1 hm r1 (andI (secF (mcP p) (srcF p e0 l now) (dstF p e1 l now)) 4 != 0) (andI (secF (mcP p) (srcF p e0 l now) (dstF p e1 l now)) 3) (andI (idsF (srcF p e0 l now) (dstF p e1 l now)) 15) (by rw [b4, r1]) (by rw [b3, r1]) (by rw [i15, r1])
      have k8 : andI (secF (mcP p) (srcF p e0 l now) (dstF p e1 l now)) 8 = 0 := by rw [r2] at b8' ⊢; simpa using b8'
      refine spec_of_run ttok mixed (T0 := 20769187753296022049305262685159391) (ts := [.cell 10 107, .tmp 11, .tmp 12]) 122 rfl rfl rfl rfl (by simp) rfl ?_
      conv => whnf
      repeat' (first | with_reducible apply True.intro | ((apply Same.mk (by rw [hlen, r1])); (conv => whnf)) | ((apply Same.mk rfl); (conv => whnf)) | ((first | ((with_reducible apply Need.mk); focus first | omega | kernel_rfl) | (apply CallN.mk (cc)) | (apply CallN.mk (cs)) | (apply CallN.mk (cf)) | (apply CallN.mk (fi _)) | (apply CallN.mk (us)) | (apply CallN.mk (uu)) | (with_reducible first | apply Bif.T | apply Bif.F) | ((with_reducible apply Bif.bne) <;> intro h <;> (try simp only [lns, beN_len, ipB_len] at h) <;> (try first | (exfalso; omega) | (exact absurd k8 h) | (exact (hsk hs (by assumption) h).elim))) | (with_reducible apply Bif.not) | (with_reducible apply Frz.l)) <;> conv => whnf) | fail)
end Go.Fw

/- The compressed UDP header, read again: a port in one byte. -/
namespace Go.Fw
open Go.Proofs
set_option maxHeartbeats 8000000
set_option maxRecDepth 8000
theorem k_readUDP_B (p : Pkt) (s : Nat) (r : List UInt8) (hA : ¬ (half p.sp ∧ half p.dp)) (hB : byt p.dp) (hsp : p.sp ≤ 65535) (hdp : p.dp ≤ 65535) (hs : s ≤ 65535) (hr : r.length ≤ 5000) :
    Con Tryz.prog 85 [bys (udpB p s ++ r)] [] (.tup [.v (.int .u16 (p.sp : Int)), .v (.int .u16 (p.dp : Int)), .v (.int .u16 (s : Int)), int ((udpB p s).length : Int), int 0]) [] := by
  unfold udpB
  rw [if_neg hA, if_pos hB]
  obtain ⟨q3, q4⟩ := hB
  have hl : ([] ++ beN 1 241 ++ beN 2 p.sp ++ beN 1 (p.dp - 61440) ++ beN 2 s).length = 6 := by simp [beN_len]
  rw [hl]
  have hb : [] ++ beN 1 241 ++ beN 2 p.sp ++ beN 1 (p.dp - 61440) ++ beN 2 s ++ r = 241 :: (beN 2 p.sp ++ (beN 1 (p.dp - 61440) ++ (beN 2 s ++ r))) := by rw [beN1_eq]; simp
  rw [hb]
  have e0 : gt (241 :: (beN 2 p.sp ++ (beN 1 (p.dp - 61440) ++ (beN 2 s ++ r)))) 0 = 241 := rfl
  have d1 : (241 :: (beN 2 p.sp ++ (beN 1 (p.dp - 61440) ++ (beN 2 s ++ r)))).drop 1 = beN 2 p.sp ++ (beN 1 (p.dp - 61440) ++ (beN 2 s ++ r)) := rfl
  have d3 : (241 :: (beN 2 p.sp ++ (beN 1 (p.dp - 61440) ++ (beN 2 s ++ r)))).drop 3 = beN 1 (p.dp - 61440) ++ (beN 2 s ++ r) := by
    rw [show (3 : Nat) = 1 + 2 from rfl, ← List.drop_drop, d1]; exact List.drop_left' (beN_len 2 _)
  have d5 : (241 :: (beN 2 p.sp ++ (beN 1 (p.dp - 61440) ++ (beN 2 s ++ r)))).drop 4 = beN 2 s ++ r := by
    rw [show (4 : Nat) = 3 + 1 from rfl, ← List.drop_drop, d3]; exact List.drop_left' (beN_len 1 _)
  have e1 := (congrArg (List.take 2) d1).trans (List.take_left' (beN_len 2 _))
  have e3 := (congrArg (List.take 1) d3).trans (List.take_left' (beN_len 1 _))
  have e5 := (congrArg (List.take 2) d5).trans (List.take_left' (beN_len 2 s))
  have hbl : (241 :: (beN 2 p.sp ++ (beN 1 (p.dp - 61440) ++ (beN 2 s ++ r)))).length = 6 + r.length := by simp [beN_len]; omega
  generalize 241 :: (beN 2 p.sp ++ (beN 1 (p.dp - 61440) ++ (beN 2 s ++ r))) = b at *
  have t1 := k_takeU b 1 2 (by decide) (by omega) (by omega)
  have t3 := k_takeU b 3 1 (by decide) (by omega) (by omega)
  have t5 := k_takeU b 4 2 (by decide) (by omega) (by omega)
  rw [e1, beV_2 _ hsp] at t1
  rw [e3, beV_1 _ (by omega)] at t3
  rw [e5, beV_2 _ hs] at t5
  refine spec_of_run ttok mixed (T0 := 75557863725948716752895) (ts := [.tmp 2, .tmp 3, .tmp 4, .tmp 5, .cell 6 55]) 82 rfl rfl rfl rfl (by simp) rfl ?_
  conv => whnf
  repeat' (first | with_reducible apply True.intro | ((apply Wr.eq (y := 1) (by rw [e0]; rfl)); (conv => whnf)) | ((apply Elem.mk _ rfl); (conv => whnf)) | ((apply Same.int (by omega)); (conv => whnf)) | ((first | ((with_reducible apply Nm.mk); focus ((try simp only [lns, beN_len, ipB_len, hbl, e0]); exact rfl)) | ((with_reducible first | apply Wr.u16 | apply Wr.u64); focus omega) | ((with_reducible apply Need.mk); focus first | omega | (simp only [lns, beN_len, ipB_len, hbl, e0]; omega) | kernel_rfl) | ((with_reducible apply Elem.lst); focus omega) | (apply CallN.mk (t1)) | (apply CallN.mk (t3)) | (apply CallN.mk (t5)) | (with_reducible apply Bif.F) | ((with_reducible first | apply Bif.dec | apply Bif.beq | apply Bif.bne) <;> intro h <;> (try simp only [lns, beN_len, ipB_len, hbl, e0] at h) <;> (try first | (exfalso; omega) | (exact absurd h (by decide)))) | (with_reducible apply Frz.l)) <;> conv => whnf) | fail)
theorem k_readUDP_C (p : Pkt) (s : Nat) (r : List UInt8) (hA : ¬ (half p.sp ∧ half p.dp)) (hB : ¬ byt p.dp) (hC : byt p.sp) (hsp : p.sp ≤ 65535) (hdp : p.dp ≤ 65535) (hs : s ≤ 65535) (hr : r.length ≤ 5000) :
    Con Tryz.prog 85 [bys (udpB p s ++ r)] [] (.tup [.v (.int .u16 (p.sp : Int)), .v (.int .u16 (p.dp : Int)), .v (.int .u16 (s : Int)), int ((udpB p s).length : Int), int 0]) [] := by
  unfold udpB
  rw [if_neg hA, if_neg hB, if_pos hC]
  obtain ⟨q3, q4⟩ := hC
  have hl : ([] ++ beN 1 242 ++ beN 1 (p.sp - 61440) ++ beN 2 p.dp ++ beN 2 s).length = 6 := by simp [beN_len]
  rw [hl]
  have hb : [] ++ beN 1 242 ++ beN 1 (p.sp - 61440) ++ beN 2 p.dp ++ beN 2 s ++ r = 242 :: (beN 1 (p.sp - 61440) ++ (beN 2 p.dp ++ (beN 2 s ++ r))) := by rw [beN1_eq]; simp
  rw [hb]
  have e0 : gt (242 :: (beN 1 (p.sp - 61440) ++ (beN 2 p.dp ++ (beN 2 s ++ r)))) 0 = 242 := rfl
  have d1 : (242 :: (beN 1 (p.sp - 61440) ++ (beN 2 p.dp ++ (beN 2 s ++ r)))).drop 1 = beN 1 (p.sp - 61440) ++ (beN 2 p.dp ++ (beN 2 s ++ r)) := rfl
  have d3 : (242 :: (beN 1 (p.sp - 61440) ++ (beN 2 p.dp ++ (beN 2 s ++ r)))).drop 2 = beN 2 p.dp ++ (beN 2 s ++ r) := by
    rw [show (2 : Nat) = 1 + 1 from rfl, ← List.drop_drop, d1]; exact List.drop_left' (beN_len 1 _)
  have d5 : (242 :: (beN 1 (p.sp - 61440) ++ (beN 2 p.dp ++ (beN 2 s ++ r)))).drop 4 = beN 2 s ++ r := by
    rw [show (4 : Nat) = 2 + 2 from rfl, ← List.drop_drop, d3]; exact List.drop_left' (beN_len 2 _)
  have e1 := (congrArg (List.take 1) d1).trans (List.take_left' (beN_len 1 _))
  have e3 := (congrArg (List.take 2) d3).trans (List.take_left' (beN_len 2 _))
  have e5 := (congrArg (List.take 2) d5).trans (List.take_left' (beN_len 2 s))
  have hbl : (242 :: (beN 1 (p.sp - 61440) ++ (beN 2 p.dp ++ (beN 2 s ++ r)))).length = 6 + r.length := by simp [beN_len]; omega
  generalize 242 :: (beN 1 (p.sp - 61440) ++ (beN 2 p.dp ++ (beN 2 s ++ r))) = b at *
  have t1 := k_takeU b 1 1 (by decide) (by omega) (by omega)
  have t3 := k_takeU b 2 2 (by decide) (by omega) (by omega)
  have t5 := k_takeU b 4 2 (by decide) (by omega) (by omega)
  rw [e1, beV_1 _ (by omega)] at t1
  rw [e3, beV_2 _ hdp] at t3
  rw [e5, beV_2 _ hs] at t5
  refine spec_of_run ttok mixed (T0 := 75557863725948716752895) (ts := [.tmp 2, .tmp 3, .tmp 4, .tmp 5, .cell 6 55]) 82 rfl rfl rfl rfl (by simp) rfl ?_
  conv => whnf
  repeat' (first | with_reducible apply True.intro | ((apply Wr.eq (y := 2) (by rw [e0]; rfl)); (conv => whnf)) | ((apply Elem.mk _ rfl); (conv => whnf)) | ((apply Same.int (by omega)); (conv => whnf)) | ((first | ((with_reducible apply Nm.mk); focus ((try simp only [lns, beN_len, ipB_len, hbl, e0]); exact rfl)) | ((with_reducible first | apply Wr.u16 | apply Wr.u64); focus omega) | ((with_reducible apply Need.mk); focus first | omega | (simp only [lns, beN_len, ipB_len, hbl, e0]; omega) | kernel_rfl) | ((with_reducible apply Elem.lst); focus omega) | (apply CallN.mk (t1)) | (apply CallN.mk (t3)) | (apply CallN.mk (t5)) | (with_reducible apply Bif.F) | ((with_reducible first | apply Bif.dec | apply Bif.beq | apply Bif.bne) <;> intro h <;> (try simp only [lns, beN_len, ipB_len, hbl, e0] at h) <;> (try first | (exfalso; omega) | (exact absurd h (by decide)))) | (with_reducible apply Frz.l)) <;> conv => whnf) | fail)
end Go.Fw

/- Compression of any packet. -/
namespace Go.Fw
open Go.Proofs
set_option maxHeartbeats 8000000
set_option maxRecDepth 8000
theorem k_cEncN (p : Pkt) (e0 e1 : Nat) (l : List Cxt) (now : Int) (hd : List UInt8) (hn : p.next ≠ 17) (hh : hd.length ≤ 1000) (hp : p.pay.length ≤ 1280)
    (ci : Con Tryz.prog 81 [pktV p, lnkV e0, lnkV e1, cxts l, int now] [] (.tup [.ov 1 0 0 hd.length, int 0]) [.arr none 1 (lst b8 hd)]) :
    Con Tryz.prog 35 [pktV p, lnkV e0, lnkV e1, cxts l, int now] [] (.tup [bys (hd ++ p.pay), int 0]) [] := by
  refine Con.cl (r := .tup [.ov 1 0 0 (hd ++ p.pay).length, int 0]) (hp' := [.arr none 1 (lst b8 (hd ++ p.pay))]) ?_ (.tup (.cons (.all rfl rfl) (.cons (.wk rfl .rfl) .nil))) rfl
  have h17 : ¬ (p.next.toNat : Int) = 17 := fun g => hn (next17.1 g)
  refine spec_of_run ttok mixed (T0 := 285228287) (ts := [.tmp 10, .tmp 11]) 36 rfl rfl rfl rfl (by simp) rfl ?_
  conv => whnf
  repeat' (first | with_reducible apply True.intro | ((with_reducible apply Nm.mk (lst_app _ _)); (conv => whnf)) | ((apply Same.mk rfl); (conv => whnf)) | ((apply Same.mk); (focus (simp; done)); (conv => whnf)) | ((first | ((with_reducible apply Nm.mk); focus ((try simp only [lns, beN_len, ipB_len]); exact rfl)) | ((with_reducible apply Need.mk); focus (unfold roomOK; simp only [lns, beN_len, ipB_len]; omega)) | (apply CallN.mk (ci)) | ((with_reducible first | apply Bif.beq | apply Bif.bne) <;> intro h <;> (try simp only [lns, beN_len, ipB_len] at h) <;> (try (exfalso; omega))) | (with_reducible first | apply Alt.l | apply Cut.l) | (with_reducible apply Frz.l)) <;> conv => whnf) | fail)
theorem k_cDecN (p : Pkt) (e0 e1 : Nat) (l : List Cxt) (now : Int) (C : List UInt8) (n : Nat) (hv : VP p) (hn17 : p.next ≠ 17) (h0 : gt C 0 ≠ 65) (hC : C.drop n = p.pay) (hn : n ≤ C.length) (hl : C.length ≤ 1400) (h1 : 1 ≤ C.length)
    (ci : Con Tryz.prog 84 [bys C, lnkV e0, lnkV e1, cxts l, int now] [] (.tup [pktH p, int (n : Int), int 0]) []) :
    Con Tryz.prog 36 [bys C, lnkV e0, lnkV e1, cxts l, int now] [] (.tup [pktV p, int 0]) [] := by
  obtain ⟨hs0, hd0⟩ := hv.port hn17
  have cz := k_pSize p (bys p.pay) rfl (by have := hv.size; unfold sizeP at this; split at this <;> omega)
  have hsz := hv.size
  have hpl : p.pay.length = C.length - n := by rw [← hC, List.length_drop]
  have h8 : (gt C 0).toNat ≠ 65 := fun h => h0 (UInt8.toNat_inj.1 h)
  have h17 : ¬ (p.next.toNat : Int) = 17 := fun g => hn17 (next17.1 g)
  have es : SV.v (.int .u16 0) = .v (.int .u16 (p.sp : Int)) := by rw [hs0]; rfl
  have ed : SV.v (.int .u16 0) = .v (.int .u16 (p.dp : Int)) := by rw [hd0]; rfl
  have ci2 : Con Tryz.prog 84 [bys C, lnkV e0, lnkV e1, cxts l, int now] [] (.tup [.agg [b8 p.cls, .v (.int .u32 (p.flow : Int)), b8 p.next, b8 p.hops, ipV p.src, ipV p.dst, .v (.int .u16 (p.sp : Int)), .v (.int .u16 (p.dp : Int)), nilV], int (n : Int), int 0]) [] := by
    rw [← es, ← ed]; exact ci
  refine Con.cl (r := .tup [pktS p (.ov 1 0 0 p.pay.length), int 0]) (hp' := [.arr (some p.pay.length) 1 (lst b8 p.pay)]) ?_
    (.tup (.cons (.aggC (.wk rfl .rfl) (.aggC (.wk rfl .rfl) (.aggC (.wk rfl .rfl) (.aggC (.wk rfl .rfl) (.aggC (.wk rfl .rfl) (.aggC (.wk rfl .rfl) (.aggC (.wk rfl .rfl) (.aggC (.wk rfl .rfl) (.aggC (.all rfl rfl) .aggN))))))))) (.cons (.wk rfl .rfl) .nil))) rfl
  clear es ed hs0 hd0 ci
  refine spec_of_run ttok mixed (T0 := 4840430257757702759644383) (ts := [.cell 10 107, .tmp 11]) 93 rfl rfl rfl rfl (by simp) rfl ?_
  conv => whnf
  repeat' (first | with_reducible apply True.intro | ((apply Nm.mk (show List.take ((lst b8 C).length - n) (List.drop n (lst b8 C)) = lst b8 p.pay by rw [nm_tailN, hC])); (conv => whnf)) | ((apply Same.mk rfl); (conv => whnf)) | ((apply Same.mk); (focus (simp [lst]; done)); (conv => whnf)) | ((first | (with_reducible apply Nm.rep _ (rfl)) | ((with_reducible apply Nm.mk); focus ((try simp only [lns, beN_len, ipB_len]); exact rfl)) | ((with_reducible apply Need.mk); focus first | (simp only [lns, beN_len, ipB_len]; omega) | (unfold roomOK; simp only [lns, beN_len, ipB_len]; omega)) | ((with_reducible apply Elem.lst); focus omega) | (apply CallN.mk (ci2)) | (apply CallN.mk (cz)) | (with_reducible apply Bif.F) | ((with_reducible first | apply Bif.dec | apply Bif.beq | apply Bif.bne) <;> intro h <;> (try simp only [lns, beN_len, ipB_len] at h) <;> (try (exfalso; omega))) | (with_reducible apply Frz.l)) <;> conv => whnf) | fail)
end Go.Fw

/- Compression of any packet, in one. -/
namespace Go.Fw
open Go.Proofs
set_option maxHeartbeats 8000000
set_option maxRecDepth 8000
theorem hdM_len {p : Pkt} {e0 e1 : Nat} {l : List Cxt} {now : Int} (h : VCx l) : 2 ≤ (hdM p e0 e1 l now).length ∧ (hdM p e0 e1 l now).length ≤ 41 := by
  have o0 : OkC (srcF p e0 l now) := uniF_ok h
  have o1 : OkC (dstF p e1 l now) := by unfold dstF; split; exact groupF_ok _; exact uniF_ok h
  have hil := inlF_len p
  have l0 := o0.len
  have l1 := o1.len
  have hil2 : (idsB (srcF p e0 l now) (dstF p e1 l now)).length ≤ 1 := by unfold idsB; split <;> simp
  unfold hdM iphcM
  simp only [List.length_append, List.length_cons, List.length_nil]
  omega
theorem hdM_first (p : Pkt) (e0 e1 : Nat) (l : List Cxt) (now : Int) (X : List UInt8) : gt (hdM p e0 e1 l now ++ X) 0 ≠ 65 := by
  have h := firstH_rng p
  show UInt8.ofNat (firstH p).toNat ≠ 65
  intro e
  have := congrArg UInt8.toNat e
  rw [ofNat_toNat (by omega)] at this
  have : (firstH p).toNat = 65 := this
  omega
noncomputable def cmpW (p : Pkt) (e0 e1 : Nat) (l : List Cxt) (now : Int) : List UInt8 := if p.next = 17 then hdM p e0 e1 l now ++ udpB p (sumP p) ++ p.pay else hdM p e0 e1 l now ++ p.pay
theorem pay_le {p : Pkt} (hv : VP p) : p.pay.length ≤ 1240 := by have := hv.size; unfold sizeP at this; split at this <;> omega
theorem k_cEnc (p : Pkt) (e0 e1 : Nat) (he0 : e0 ≤ 18446744073709551615) (he1 : e1 ≤ 18446744073709551615) (l : List Cxt) (now : Int) (h : VCx l) (hn : isTm now) (hl : l.length ≤ 1000) (hv : VP p) :
    Con Tryz.prog 35 [pktV p, lnkV e0, lnkV e1, cxts l, int now] [] (.tup [bys (cmpW p e0 e1 l now), int 0]) [] := by
  have hL := hdM_len (p := p) (e0 := e0) (e1 := e1) (now := now) h
  have hp := pay_le hv
  have ci := k_iEnc p e0 e1 he0 he1 l now h hn hl hv
  unfold cmpW
  by_cases g : p.next = 17
  · rw [if_pos g]; exact k_cEncF p e0 e1 l now _ hv g (by omega) (by omega) ci
  · rw [if_neg g]; exact k_cEncN p e0 e1 l now _ g (by omega) (by omega) ci
theorem k_cDec (p : Pkt) (e0 e1 : Nat) (he0 : e0 ≤ 18446744073709551615) (he1 : e1 ≤ 18446744073709551615) (l : List Cxt) (now : Int) (h : VCx l) (hn : isTm now) (hl : l.length ≤ 1000) (hv : VP p) :
    Con Tryz.prog 36 [bys (cmpW p e0 e1 l now), lnkV e0, lnkV e1, cxts l, int now] [] (.tup [pktV p, int 0]) [] := by
  have hL := hdM_len (p := p) (e0 := e0) (e1 := e1) (now := now) h
  have hp := pay_le hv
  have hu := udpB_len p (sumP p)
  unfold cmpW
  by_cases g : p.next = 17
  · rw [if_pos g, List.append_assoc]
    have hs : sumP p ≤ 65535 := (k_pSum p hv g).1
    have ci := k_iDec p e0 e1 he0 he1 l now h hn hl hv (udpB p (sumP p) ++ p.pay) (by simp; omega)
    have cr : Con Tryz.prog 85 [bys (udpB p (sumP p) ++ p.pay)] [] (.tup [.v (.int .u16 (p.sp : Int)), .v (.int .u16 (p.dp : Int)), .v (.int .u16 (sumP p : Int)), int ((udpB p (sumP p)).length : Int), int 0]) [] := by
      by_cases hA : half p.sp ∧ half p.dp
      · exact k_readUDP_A p _ _ hA hv.sp hv.dp hs (by omega)
      · by_cases hB : byt p.dp
        · exact k_readUDP_B p _ _ hA hB hv.sp hv.dp hs (by omega)
        · by_cases hC : byt p.sp
          · exact k_readUDP_C p _ _ hA hB hC hv.sp hv.dp hs (by omega)
          · exact k_readUDP_D p _ _ hA hB hC hv.sp hv.dp hs (by omega)
    exact k_cDecF p e0 e1 l now (hdM p e0 e1 l now ++ (udpB p (sumP p) ++ p.pay)) 0 (hdM p e0 e1 l now).length _ hv g (hdM_first _ _ _ _ _ _) List.drop_left (by simp) (by simp; omega) (by simp; omega) rfl ci cr
  · rw [if_neg g]
    have ci := k_iDec p e0 e1 he0 he1 l now h hn hl hv p.pay (by omega)
    exact k_cDecN p e0 e1 l now (hdM p e0 e1 l now ++ p.pay) (hdM p e0 e1 l now).length hv g (hdM_first _ _ _ _ _ _) List.drop_left (by simp) (by simp; omega) (by simp; omega) ci
end Go.Fw
