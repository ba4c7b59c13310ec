/-
  Contracts of the parser: the first of an expression.
-/
import Derived.Test.YtjlkgedcpmoehaaPd
set_option linter.unusedVariables false
set_option linter.unusedSimpArgs false
set_option maxRecDepth 100000
namespace Go.Vc
theorem setCell_size (w : World) (a : Addr) (v : Value) : (w.setCell a v).heap.size = w.heap.size := by simp [World.setCell]
theorem PS.next' {K : PK} {ν : Nat → Prop} {w : World} {I E D : Int} (h : PS K ν w I E D) {J : Int} (h0 : 0 ≤ J) (h1 : J < (K.n : Int)) : ∃ (a : Addr) (t : Tok), K.L = some a ∧ ¬ ν a.block ∧ TokR w t (a.add (J.toNat * 4)) := by
  have hl := h.tok.1
  have hx : K.toks[J.toNat]? = some (K.toks[J.toNat]'(by omega)) := List.getElem?_eq_getElem (by omega)
  obtain ⟨a, h2, h3, h4⟩ := h.tok.2 _ _ hx
  exact ⟨a, _, h2, h3, h4⟩
end Go.Vc
namespace Go.Proofs.Ytjlkgedcpmoehaa
open Go Go.Vc
variable {K : PK} {ν μ : Nat → Prop} {w w' : World} {I E D J F : Int}

theorem first_of {N : Nat} (hX : ExprC N) (hν : ν K.pb) (hlt : ∀ i, ν i → i < w.heap.size) (h0 : PS K ν w I E D) (hN : ((K.n : Int) - I) * 13 ≤ (N : Int) + 2) :
    Calls Try.prog 39 #[.pointer (some K.p)] w (Ret (EOut K ν I D w)) := by
  refine Sh.ref17_Parser_first_calls _ ?_
  unfold Sh.ref17_Parser_first
  simp only [imp_self, true_and]
  have hpl := h0.lt
  have i0 := h0.i0
  have i1 := h0.i1
  have hn := h0.len
  have d0 := h0.d0
  intro b hb w1 hf1 hl1
  have hbp : K.pb ≠ b := by omega
  have hF : Fr (fun i => i = K.pb) w w1 := (frOne hb hf1).ext
  have h := h0.still (frOne hb hf1)
  refine ⟨E, h.cE, fun _ => ?_, fun hE => ?_⟩
  · intro w9 hf9 hb9
    have h := (h.re h0 hF hν).frame hf9 (fun i hi hm => .inr (by omega)) (fun hm => by omega)
    have hF := hF.lateP hf9 (fun i hi hm => by omega)
    exact eLeaf h0 hF hν (by omega) h _ _ _ _ _
  have hE0 : E = 0 := by simpa using hE
  subst hE0
  refine Calls.tell (kind_c h) fun v w2 ⟨hv, hf2⟩ => ?_
  subst hv
  have hF := hF.same hf2.ext
  have h := h.still hf2
  have hz2 := hf2.size
  have hw1 : IntKind.i64.wrap (I + 1) = I + 1 := wrap_i64 (by omega) (by omega)
  have hw2 : IntKind.i64.wrap (I + 1 - 1) = I := by rw [wrap_i64 (by omega) (by omega)]; omega
  refine ⟨_, rfl, fun h => hf2.keep _ h fun e => e, fun hk => ?_, fun hk => ?_⟩
  · have hI := kindAt_lt h (by have : kindAt K.toks I = 3 := by simpa using hk
                               omega)
    refine ⟨I, h.cI, by rw [add_block]; exact hbp, by rw [h.cI]; rfl, h.nofroz 1, ?_⟩
    rw [hw1]
    have hF := hF.same (PS.set_fr (K := K) 1 (.int .i64 (I + 1)))
    have h := h.setI hν (J := I + 1) (by omega) (by omega)
    intro w9 hf9 hb9
    have h := (h.re h0 hF hν).frame hf9 (fun i hi hm => .inr (by omega)) (fun hm => by omega)
    have hF := hF.lateP hf9 (fun i hi hm => by omega)
    obtain ⟨a, t, ha, hna, hc⟩ := h.next' (J := I) (by omega) (by omega)
    refine ⟨_, _, _, h.cL, hbp, I + 1, h.cI, by rw [add_block]; exact hbp, ?_⟩
    rw [hw2]
    refine ⟨a, ha, ⟨i0, hI⟩, t.n, hc.2.2.1, by rw [add_block, add_block]; exact fun e => hna (.inr (by omega)), ?_⟩
    intro w9 hf9 hb9
    have h := (h.re h0 hF hν).frame hf9 (fun i hi hm => .inr (by omega)) (fun hm => by omega)
    have hF := hF.lateP hf9 (fun i hi hm => by omega)
    exact eLeaf h0 hF hν (by omega) h _ _ _ _ _
  refine Calls.tell (kind_c h) fun v w3 ⟨hv, hf3⟩ => ?_
  subst hv
  have hF := hF.same hf3.ext
  have h := h.still hf3
  have hz3 := hf3.size
  refine ⟨_, rfl, fun h => hf3.keep _ h fun e => e, fun hk => ?_, fun hk => ?_⟩
  · have hI := kindAt_lt h (by have : kindAt K.toks I = 4 := by simpa using hk
                               omega)
    refine ⟨I, h.cI, by rw [add_block]; exact hbp, by rw [h.cI]; rfl, h.nofroz 1, ?_⟩
    rw [hw1]
    have hF := hF.same (PS.set_fr (K := K) 1 (.int .i64 (I + 1)))
    have h := h.setI hν (J := I + 1) (by omega) (by omega)
    intro w9 hf9 hb9
    have h := (h.re h0 hF hν).frame hf9 (fun i hi hm => .inr (by omega)) (fun hm => by omega)
    have hF := hF.lateP hf9 (fun i hi hm => by omega)
    obtain ⟨a, t, ha, hna, hc⟩ := h.next' (J := I) (by omega) (by omega)
    refine ⟨_, _, _, h.cL, hbp, I + 1, h.cI, by rw [add_block]; exact hbp, ?_⟩
    rw [hw2]
    refine ⟨a, ha, ⟨i0, hI⟩, t.t, hc.2.1, by rw [add_block, add_block]; exact fun e => hna (.inr (by omega)), ?_⟩
    intro w9 hf9 hb9
    have h := (h.re h0 hF hν).frame hf9 (fun i hi hm => .inr (by omega)) (fun hm => by omega)
    have hF := hF.lateP hf9 (fun i hi hm => by omega)
    exact eLeaf h0 hF hν (by omega) h _ _ _ _ _
  refine Calls.tell (kind_c h) fun v w4 ⟨hv, hf4⟩ => ?_
  subst hv
  have hF := hF.same hf4.ext
  have h := h.still hf4
  have hz4' := hf4.size
  refine ⟨_, rfl, fun h => hf4.keep _ h fun e => e, fun hk => ?_, fun hk => ?_⟩
  · have hz4 := hF.size
    refine Calls.tell (named_of hX (ν := fun i => ν i ∨ i = b) (.inl hν) (fun i hi => hi.elim (fun h => Nat.lt_of_lt_of_le (hlt i h) hz4) fun h => by omega) ((h.re h0 hF hν).anti fun i _ h => h.elim .inl fun h => .inr (by omega)) (by simpa using hk) hN) fun v w5 ⟨y, k, o, s, t, m, q, ql, qc, hv, hy, ⟨J5, F5, hJ5, h5⟩, hf5⟩ => ?_
    subst hv
    have hF := hF.same hf5
    have h := h5
    refine ⟨k, o, s, t, m, q, ql, qc, rfl, fun h => hf5.keep _ h fun e => by omega, ?_⟩
    intro w9 hf9 hb9
    have h := (h.re h0 hF hν).frame hf9 (fun i hi hm => .inr (by omega)) (fun hm => by omega)
    have hF := hF.lateP hf9 (fun i hi hm => by omega)
    have hs := hy.frame hf9 (fun i hi hm => .inr hm)
    exact ⟨y, k, o, s, t, m, q, ql, qc, rfl, hs.anti fun _ _ h => .inl h, ⟨J5, F5, hJ5, h.anti fun _ _ h => .inl h⟩, hF⟩
  refine Calls.tell (take_c _ hν h) fun v w3 ⟨r3, hv, hr3, hr3', hf3⟩ => ?_
  subst hv
  have hz3 := hf3.size
  have hF := hF.same hf3
  refine ⟨r3, rfl, fun h => hf3.keep _ h fun e => by omega, fun hr => ?_, fun hr => ?_⟩
  · have h := (hr3 hr).2.2
    intro w9 hf9 hb9
    have h := (h.re h0 hF hν).frame hf9 (fun i hi hm => .inr (by omega)) (fun hm => by omega)
    have hF := hF.lateP hf9 (fun i hi hm => by omega)
    exact eLeaf h0 hF hν (by omega) h _ _ _ _ _
  have h := hr3' hr
  refine Calls.tell (take_c _ hν h) fun v w3 ⟨r3, hv, hr3, hr3', hf3⟩ => ?_
  subst hv
  have hz3 := hf3.size
  have hF := hF.same hf3
  refine ⟨r3, rfl, fun h => hf3.keep _ h fun e => by omega, fun hr => ?_, fun hr => ?_⟩
  · have h := (hr3 hr).2.2
    intro w9 hf9 hb9
    have h := (h.re h0 hF hν).frame hf9 (fun i hi hm => .inr (by omega)) (fun hm => by omega)
    have hF := hF.lateP hf9 (fun i hi hm => by omega)
    exact eLeaf h0 hF hν (by omega) h _ _ _ _ _
  have h := hr3' hr
  refine Calls.tell (take_c _ hν h) fun v w3 ⟨r3, hv, hr3, hr3', hf3⟩ => ?_
  subst hv
  have hz3 := hf3.size
  have hF := hF.same hf3
  refine ⟨r3, rfl, fun h => hf3.keep _ h fun e => by omega, fun hr => ?_, fun hr => ?_⟩
  · have h := (hr3 hr).2.2
    intro w9 hf9 hb9
    have h := (h.re h0 hF hν).frame hf9 (fun i hi hm => .inr (by omega)) (fun hm => by omega)
    have hF := hF.lateP hf9 (fun i hi hm => by omega)
    exact eLeaf h0 hF hν (by omega) h _ _ _ _ _
  have h := hr3' hr
  refine Calls.tell (is_c _ h) fun v w4 ⟨r4, hv, hr4, hf4⟩ => ?_
  subst hv
  have hz4 := hf4.size
  have hF := hF.same hf4.ext
  have h := h.still hf4
  refine ⟨r4, rfl, fun h => hf4.keep _ h fun e => e, fun hr => ?_, fun hr => ?_⟩
  · have hI := hr4 hr
    refine Calls.tell (in_c hν h) fun v w5 ⟨r5, hv, hin, hout, hf5⟩ => ?_
    subst hv
    have hz5 := hf5.size
    have hF := hF.same hf5
    refine ⟨r5, rfl, fun h => hf5.keep _ h fun e => by omega, fun hn => ?_, fun hn => ?_⟩
    · obtain ⟨F5, h⟩ := hout (by simpa using hn)
      intro w9 hf9 hb9
      have h := (h.re h0 hF hν).frame hf9 (fun i hi hm => .inr (by omega)) (fun hm => by omega)
      have hF := hF.lateP hf9 (fun i hi hm => by omega)
      exact eLeaf h0 hF hν (by omega) h _ _ _ _ _
    · obtain ⟨_, hd1, h⟩ := hin (by simpa using hn)
      refine ⟨I, h.cI, by rw [add_block]; exact hbp, by rw [h.cI]; rfl, h.nofroz 1, ?_⟩
      rw [wrap_i64 (x := I + 1) (by omega) (by omega)]
      have hF := hF.same (PS.set_fr (K := K) 1 (.int .i64 (I + 1)))
      have h := h.setI hν (J := I + 1) (by omega) (by omega)
      refine Calls.tell (hX K (fun i => ν i ∨ i = b) _ (I+1) _ (D + 1) 1 (.inl hν) (fun i hi => hi.elim (fun h => Nat.lt_of_lt_of_le (hlt i h) hF.size) fun h => by first | omega | (simp only [setCell_size]; omega)) ((h.re h0 hF hν).anti fun i _ h => h.elim .inl fun h => .inr (by omega)) (by omega) (by omega) (by omega)) fun v w6 ⟨y, k, o, s, t, m, q, ql, qc, hv, hy, ⟨J6, F6, hJ6, h6⟩, hf6⟩ => ?_
      subst hv
      have hF := hF.same hf6
      have h := h6
      refine ⟨k, o, s, t, m, q, ql, qc, rfl, fun h => hf6.keep _ h fun e => by omega, ?_⟩
      intro bn hbn hne
      have hz6 := hF.size
      have hbn' : K.pb ≠ bn := by omega
      have hs := hy.anti (ν := fun i => ν i ∨ i = b ∨ w6.heap.size ≤ i) fun i hi h => h.elim .inl fun h => .inr (by omega)
      intro w9 hf9 hb9 hc9
      have h := (h.re h0 hF hν).frame hf9 (fun i hi hm => .inr (by omega)) (fun hm => by omega)
      have hF := hF.lateP hf9 (fun i hi hm => by omega)
      have hs := hs.frame hf9 (fun i hi hm => .inr (by omega))
      refine Calls.tell (want_c _ (.inl hν) h) fun v w7 ⟨hv, ⟨J7, F7, hJ7, h7⟩, hf7⟩ => ?_
      subst hv
      have hz7 := hf7.size
      have hF := hF.same hf7
      have h := h7
      have hs := hs.frame hf7 (fun i _ hm => .inl (hm ▸ hν))
      refine ⟨rfl, fun h => hf7.keep _ h fun e => by omega, fun h => hf7.keep _ h fun e => by omega, ?_⟩
      refine ⟨D + 1, h.cD, by rw [add_block]; exact hbn', by rw [add_block]; exact hbp, by rw [h.cD]; rfl, h.nofroz 4, ?_⟩
      rw [wrap_i64 (by omega) (by omega), show D + 1 - 1 = D from by omega]
      have hF := hF.same (PS.set_fr (K := K) 4 (.int .i64 D))
      have h := h.setD (.inl hν) (F := D) d0 (by omega)
      have hs := hs.frame (PS.set_fr (K := K) 4 (.int .i64 D)) (fun i _ hm => .inl (hm ▸ hν))
      intro w9 hf9 hb9 hc9
      have h := (h.re h0 hF hν).frame hf9 (fun i hi hm => .inr (by omega)) (fun hm => by omega)
      have hF := hF.lateP hf9 (fun i hi hm => by omega)
      have hs := hs.frame hf9 (fun i hi hm => .inr (by omega))
      exact ⟨y, k, o, s, t, m, q, ql, qc, rfl, hs.anti fun _ _ h => .inl h, ⟨J7, F7, by omega, (h.re h0 hF hν).anti fun _ _ h => .inl h⟩, hF⟩
  refine Calls.tell (is_c _ h) fun v w4 ⟨r4, hv, hr4, hf4⟩ => ?_
  subst hv
  have hz4 := hf4.size
  have hF := hF.same hf4.ext
  have h := h.still hf4
  refine ⟨r4, rfl, fun h => hf4.keep _ h fun e => e, fun hr => ?_, fun hr => ?_⟩
  · have hI := hr4 hr
    refine Calls.tell (in_c hν h) fun v w5 ⟨r5, hv, hin, hout, hf5⟩ => ?_
    subst hv
    have hz5 := hf5.size
    have hF := hF.same hf5
    refine ⟨r5, rfl, fun h => hf5.keep _ h fun e => by omega, fun hn => ?_, fun hn => ?_⟩
    · obtain ⟨F5, h⟩ := hout (by simpa using hn)
      intro w9 hf9 hb9
      have h := (h.re h0 hF hν).frame hf9 (fun i hi hm => .inr (by omega)) (fun hm => by omega)
      have hF := hF.lateP hf9 (fun i hi hm => by omega)
      exact eLeaf h0 hF hν (by omega) h _ _ _ _ _
    · obtain ⟨_, hd1, h⟩ := hin (by simpa using hn)
      refine ⟨I, h.cI, by rw [add_block]; exact hbp, by rw [h.cI]; rfl, h.nofroz 1, ?_⟩
      rw [wrap_i64 (x := I + 1) (by omega) (by omega)]
      have hF := hF.same (PS.set_fr (K := K) 1 (.int .i64 (I + 1)))
      have h := h.setI hν (J := I + 1) (by omega) (by omega)
      refine Calls.tell (want_c _ hν h) fun v w7 ⟨hv, ⟨J1, F7, hJ1, h7⟩, hf7⟩ => ?_
      subst hv
      have hF := hF.same hf7
      have h := h7
      have j1 := h7.i1
      have hz7 := hf7.size
      simp only [setCell_size] at hz7
      refine ⟨rfl, fun h => hf7.keep _ h fun e => by omega, ?_⟩
      refine Calls.tell (hX K (fun i => ν i ∨ i = b) _ J1 _ (D + 1) 1 (.inl hν) (fun i hi => hi.elim (fun h => Nat.lt_of_lt_of_le (hlt i h) hF.size) fun h => by first | omega | (simp only [setCell_size]; omega)) ((h.re h0 hF hν).anti fun i _ h => h.elim .inl fun h => .inr (by omega)) (by omega) (by omega) (by omega)) fun v w6 ⟨y, k, o, s, t, m, q, ql, qc, hv, hy, ⟨J6, F6, hJ6, h6⟩, hf6⟩ => ?_
      subst hv
      have hF := hF.same hf6
      have h := h6
      refine ⟨k, o, s, t, m, q, ql, qc, rfl, fun h => hf6.keep _ h fun e => by omega, ?_⟩
      intro bn hbn hne
      have hz6 := hF.size
      have hbn' : K.pb ≠ bn := by omega
      have hs := hy.anti (ν := fun i => ν i ∨ i = b ∨ w6.heap.size ≤ i) fun i hi h => h.elim .inl fun h => .inr (by omega)
      intro w9 hf9 hb9 hc9
      have h := (h.re h0 hF hν).frame hf9 (fun i hi hm => .inr (by omega)) (fun hm => by omega)
      have hF := hF.lateP hf9 (fun i hi hm => by omega)
      have hs := hs.frame hf9 (fun i hi hm => .inr (by omega))
      refine Calls.tell (want_c _ (.inl hν) h) fun v w7 ⟨hv, ⟨J7, F7, hJ7, h7⟩, hf7⟩ => ?_
      subst hv
      have hz7 := hf7.size
      have hF := hF.same hf7
      have h := h7
      have hs := hs.frame hf7 (fun i _ hm => .inl (hm ▸ hν))
      refine ⟨rfl, fun h => hf7.keep _ h fun e => by omega, fun h => hf7.keep _ h fun e => by omega, ?_⟩
      refine Calls.tell (typed_c (.inl hν) h) fun v w8 ⟨z, hv, ⟨J8, F8, hJ8, h8⟩, hf8⟩ => ?_
      subst hv
      have hz8 := hf8.size
      have hF := hF.same hf8
      have h := h8
      have hs := hs.frame hf8 (fun i _ hm => .inl (hm ▸ hν))
      refine ⟨z, rfl, fun h => hf8.keep _ h fun e => by omega, fun h => hf8.keep _ h fun e => by omega, ?_⟩
      refine Calls.tell (want_c _ (.inl hν) h) fun v w7 ⟨hv, ⟨J9, F7, hJ7, h7⟩, hf7⟩ => ?_
      subst hv
      have hz7 := hf7.size
      have hF := hF.same hf7
      have h := h7
      have hs := hs.frame hf7 (fun i _ hm => .inl (hm ▸ hν))
      refine ⟨rfl, fun h => hf7.keep _ h fun e => by omega, fun h => hf7.keep _ h fun e => by omega, ?_⟩
      refine ⟨D + 1, h.cD, by rw [add_block]; exact hbn', by rw [add_block]; exact hbp, by rw [h.cD]; rfl, h.nofroz 4, ?_⟩
      rw [wrap_i64 (by omega) (by omega), show D + 1 - 1 = D from by omega]
      have hF := hF.same (PS.set_fr (K := K) 4 (.int .i64 D))
      have h := h.setD (.inl hν) (F := D) d0 (by omega)
      have hs := hs.frame (PS.set_fr (K := K) 4 (.int .i64 D)) (fun i _ hm => .inl (hm ▸ hν))
      intro w10 hw10
      have hb10 : b < (w7.setCell (K.p.add 4) (.int .i64 D)).heap.size ∧ bn < (w7.setCell (K.p.add 4) (.int .i64 D)).heap.size := by simp only [setCell_size]; omega
      have hs10 : NdS (fun i => ν i ∨ i = b ∨ i = bn) w10 [y] (some (⟨(w7.setCell (K.p.add 4) (.int .i64 D)).heap.size, 0, none⟩ : Addr)) 1 := by
        rw [hw10]
        refine (own_one (base := (w7.setCell (K.p.add 4) (.int .i64 D)).heap.size) (Nat.le_refl _) (hs.anti (ν := fun i => ν i ∨ i = b ∨ i = bn) fun i hi h => h.elim .inl fun h => .inr (by omega))).nds fun i hi => ?_
        rcases hi with hi | hi | hi
        · exact Nat.lt_of_lt_of_le (hlt i hi) hF.size
        · rw [hi]; exact hb10.1
        · rw [hi]; exact hb10.2
      have hf10 : Fr (fun _ => False) (w7.setCell (K.p.add 4) (.int .i64 D)) w10 := by rw [hw10]; exact alloc_still _ _
      have hF := hF.same hf10.ext
      have h := h.still hf10
      intro w9 hf9 hb9 hc9
      have h := (h.re h0 hF hν).frame hf9 (fun i hi hm => .inr (by omega)) (fun hm => by omega)
      have hF := hF.lateP hf9 (fun i hi hm => by omega)
      have hs11 := hs10.frame hf9 (fun i hi hm => .inr (by omega))
      exact eNode h0 hF hν (by omega) h (hs11.anti fun _ _ h => .inl h) (Nat.le_refl _) _ _ _ _ _
  · refine Calls.tell (fail_c 10 (by omega) hν h) fun v w5 ⟨hv, ⟨F5, _, h5⟩, hf5⟩ => ?_
    subst hv
    have hF := hF.same hf5
    have h := h5
    refine ⟨rfl, fun h => hf5.keep _ h fun e => by omega, ?_⟩
    intro w9 hf9 hb9
    have h := (h.re h0 hF hν).frame hf9 (fun i hi hm => .inr (by omega)) (fun hm => by omega)
    have hF := hF.lateP hf9 (fun i hi hm => by omega)
    exact eLeaf h0 hF hν (by omega) h _ _ _ _ _
end Go.Proofs.Ytjlkgedcpmoehaa
