/- The reference's Merge. -/
import Derived.Test.YtpmiaggdjgfjgaaGreatDetP
namespace Go.Fw
open Go.Proofs
set_option maxHeartbeats 4000000
set_option maxRecDepth 4000
theorem Sub.gone {n : Sz} {e : List (Nat × SV)} {h : List OB} (k : Nat) {x : Option Nat} {E : Nat} {rows : List SV} (hk : h[k]? = some (.arr x E rows)) : Sub n e h e (h.set k .gone) := by
  intro B cx a w hB hs
  exact ⟨cx, hs.df, hs.sz, hs.sl, mem_turn hs.mem hk (by simp) trivial, hs.fr⟩
/-- Ahead of a loop: an array is given up. -/
theorem LoopN.gone {P : Program} {n : Sz} {c : Code} {e : List (Nat × SV)} {h : List OB} {K : Exit → List (Nat × SV) → List OB → Prop} (k : Nat) {x : Option Nat} {E : Nat} {rows : List SV} (hk : h[k]? = some (.arr x E rows))
    (hl : LoopN P n c e (h.set k .gone) K) : LoopN P n c e h K := by
  rw [loopN_iff] at hl ⊢
  obtain ⟨x, e', h', h1, h2⟩ := hl
  refine ⟨x, e', h', h1, fun B cx a w Q hB hs hK => ?_⟩
  obtain ⟨cx1, hs1⟩ := Sub.gone (n := n) (e := e) k hk B cx a w hB hs
  exact h2 B cx1 a w Q hB hs1 hK
end Go.Fw
