/-
  Contract: Show, given that expressions are read.
-/
import Derived.Test.YtjlkgedcpmoehaaPg
set_option linter.unusedVariables false
set_option linter.unusedSimpArgs false
set_option maxRecDepth 100000
namespace Go.Proofs.Ytjlkgedcpmoehaa
open Go Go.Vc

theorem show_of (hAll : ∀ N, ExprC N) : ShowC := by
  intro w x k o s t n p len cap hv hsz hg hr
  refine Sh.ref18_Show_calls _ _ _ _ _ _ _ _ ?_
  unfold Sh.ref18_Show
  simp only [imp_self, true_and]
  intro b hb w1 hf1 hl1
  have hF1 := frOne hb hf1
  refine Calls.tell (words_c x hg hr (by omega) _ w1 _ _ _ _ _ _ _ _ (hv.frame hF1 fun _ _ h => h)) fun v w2 ⟨u, hv2, hu, hf2⟩ => ?_
  subst hv2
  have hF2 := hF1.same hf2
  have hz1 := hF1.size
  have hz2 := hf2.size
  refine ⟨u, rfl, fun h => hf2.keep _ h fun h => h, ?_⟩
  refine Calls.tell (exprS_c hAll u w2) fun v w3 ⟨y, k', o', s', t', m, q, ql, qc, a, e, hv3, hy, hf3⟩ => ?_
  subst hv3
  have hF3 := hF2.same hf3
  have hz3 := hf3.size
  refine ⟨k', o', s', t', m, q, ql, qc, _, _, _, _, _, _, _, _, _, _, _, _, _, _, _, _, _, _, _, _, _, _, _, _, _, _, _, _, _, _, _, _, _, a, e, rfl, fun h => hf3.keep _ h fun h => h, ?_⟩
  intro bt hbt hne
  refine ⟨fun _ => ?_, fun he => ⟨by simpa using he, by simpa using he, ?_⟩⟩
  · intro w4 hf4 _ _
    exact ⟨_, _, rfl, hF3.late hf4 fun i hi h => by omega⟩
  · intro w4 hf4 hbt4 hb4
    have hF4 := hF3.late hf4 fun i hi h => by omega
    have hy4 := ((hy.anti (ν := fun i => i < w2.heap.size ∨ w3.heap.size ≤ i) fun i hi h => by omega).frame hf4 fun i hi h => by omega).anti (ν := fun _ => False) fun _ _ h => h.elim
    have hv4 := hv.frame hF4 fun _ _ h => h
    refine Calls.tell (sameNode y _ w4 x _ _ _ _ _ _ _ _ _ _ _ _ _ _ _ _ hy4 hv4 (.inr (by omega))) fun v w5 ⟨r, hv5, _, hf5⟩ => ?_
    subst hv5
    have hF5 := hF4.same hf5
    exact ⟨r, rfl, fun h => hf5.keep _ h fun h => h, fun h => hf5.keep _ h fun h => h, fun _ => ⟨_, _, rfl, hF5⟩, fun _ => ⟨_, _, rfl, hF5⟩⟩
end Go.Proofs.Ytjlkgedcpmoehaa
