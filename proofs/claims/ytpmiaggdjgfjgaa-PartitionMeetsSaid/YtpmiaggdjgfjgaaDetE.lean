/- Registries: the reference's Request. -/
import Derived.Test.YtpmiaggdjgfjgaaDetD
namespace Go.Fw
set_option maxRecDepth 4000
open Go.Proofs
set_option maxHeartbeats 4000000
structure RQ where
  out : List Clm
  st : Int
  kn : Bool
def stepR (now : Int) (ip : IP) (eui seq life : Int) (q : RQ) (c : Clm) : RQ :=
  if c.ip ≠ ip then ⟨q.out ++ [c], q.st, q.kn⟩
  else if c.eui ≠ eui then ⟨q.out ++ [c], 1, true⟩
  else if c.seq > seq then ⟨q.out ++ [c], 3, true⟩
  else if life = 0 then ⟨q.out, q.st, true⟩
  else ⟨q.out ++ [reqUpd c now seq life], q.st, true⟩
def foldR (now : Int) (ip : IP) (eui seq life : Int) (l : List Clm) : RQ := l.foldl (stepR now ip eui seq life) ⟨[], 0, false⟩
theorem foldR_step {now : Int} {ip : IP} {eui seq life : Int} {l : List Clm} {k : Nat} (hk : k < l.length) : foldR now ip eui seq life (l.take (k + 1)) = stepR now ip eui seq life (foldR now ip eui seq life (l.take k)) (gt l k) := by
  rw [foldR, take_gt hk, List.foldl_append]; rfl
theorem foldR_len (now : Int) (ip : IP) (eui seq life : Int) (l : List Clm) : (foldR now ip eui seq life l).out.length ≤ l.length := by
  have key : ∀ (l : List Clm) (q : RQ), (l.foldl (stepR now ip eui seq life) q).out.length ≤ q.out.length + l.length := by
    intro l
    induction l with
    | nil => intro q; simp
    | cons c l ih =>
      intro q
      have h1 := ih (stepR now ip eui seq life q c)
      have h2 : (stepR now ip eui seq life q c).out.length ≤ q.out.length + 1 := by
        unfold stepR
        (repeat' split) <;> simp
      simp only [List.foldl_cons, List.length_cons]
      omega
  have := key l ⟨[], 0, false⟩
  unfold foldR
  simpa using this
def refReqM (r : List Clm) (now : Int) (ip : IP) (eui seq life : Int) : List Clm × Int × Int :=
  if reqGood r now eui seq life then
    (if (foldR now ip eui seq life (cur r now)).kn = true ∨ life = 0 then ((foldR now ip eui seq life (cur r now)).out, (foldR now ip eui seq life (cur r now)).st, 0)
    else if (foldR now ip eui seq life (cur r now)).out.length = 64 then ((foldR now ip eui seq life (cur r now)).out, 2, 0)
    else (insM (foldR now ip eui seq life (cur r now)).out ⟨ip, eui, seq, now, min (now + life) 1099511627776⟩, 0, 0))
  else if validR r = true ∧ eui ≠ 0 then ([], 0, 2) else ([], 0, 1)
end Go.Fw
