/-
  Contracts of the parser: names.
-/
import Derived.Test.YtjlkgedcpmoehaaPc
set_option linter.unusedVariables false
set_option linter.unusedSimpArgs false
set_option maxRecDepth 100000
namespace Go.Proofs.Ytjlkgedcpmoehaa
open Go Go.Vc
variable {K : PK} {ν μ : Nat → Prop} {w w' : World} {I E D J F : Int}

theorem eNode (h0 : PS K ν w I E D) (hF : Fr (fun i => i = K.pb) w w') (hν : ν K.pb) (hJ : I ≤ J) (h : PS K μ w' J F D) {l : List Nd} {q : Option Addr} {ql qc : Nat} (hs : NdS ν w' l q ql) (hle : ql ≤ qc) (k o : Int) (s t : ByteArray) (m : Int) :
    EOut K ν I D w (.agg #[.int .i64 k, .int .i64 o, .string s, .string t, .int .i64 m, .slice q ql qc]) w' :=
  ⟨.mk k o s t m l, k, o, s, t, m, q, ql, qc, rfl, ⟨hle, l, rfl, hs⟩, ⟨J, F, hJ, (h.re h0 hF hν).anti fun _ _ h => .inl h⟩, hF⟩

theorem eLeaf (h0 : PS K ν w I E D) (hF : Fr (fun i => i = K.pb) w w') (hν : ν K.pb) (hJ : I ≤ J) (h : PS K μ w' J F D) (k o : Int) (s t : ByteArray) (m : Int) :
    EOut K ν I D w (.agg #[.int .i64 k, .int .i64 o, .string s, .string t, .int .i64 m, .slice none 0 0]) w' :=
  eNode h0 hF hν hJ h (NdS.nil _ _ _) (Nat.le_refl _) k o s t m

theorem named_of {N : Nat} (hX : ExprC N) (hν : ν K.pb) (hlt : ∀ i, ν i → i < w.heap.size) (h0 : PS K ν w I 0 D) (hk : kindAt K.toks I = 1) (hN : ((K.n : Int) - I) * 13 ≤ (N : Int) + 2) :
    Calls Try.prog 55 #[.pointer (some K.p)] w (Ret (EOut K ν I D w)) := by
  refine Sh.ref17_Parser_named_calls _ ?_
  unfold Sh.ref17_Parser_named
  simp only [imp_self, true_and]
  have hpl := h0.lt
  have i0 := h0.i0
  have i1 := h0.i1
  have hn := h0.len
  have d0 := h0.d0
  intro b hb w1 hf1 hl1
  have hbp : K.pb ≠ b := by omega
  have hF : Fr (fun i => i = K.pb) w w1 := (frOne hb hf1).ext
  have h := h0.still (frOne hb hf1)
  refine Calls.tell (name_c hν h) fun v w2 ⟨u, hv, ⟨J, F, hJ, h2, hjf⟩, hf2⟩ => ?_
  subst hv
  obtain ⟨rfl, rfl⟩ := hjf rfl hk
  have hF := hF.same hf2
  have h := h2
  have i2 := h2.i1
  refine ⟨u, rfl, fun h => hf2.keep _ h fun e => by omega, ?_⟩
  refine Calls.tell (take_c _ hν h) fun v w3 ⟨r3, hv, hr3, hr3', hf3⟩ => ?_
  subst hv
  have hF := hF.same hf3
  refine ⟨r3, rfl, fun h => hf3.keep _ h fun e => by omega, fun hr => ?_, fun hr => ?_⟩
  · have h := (hr3 hr).2.2
    refine Calls.tell (name_c hν h) fun v w4 ⟨u4, hv, ⟨J4, F4, hJ4, h4, _⟩, hf4⟩ => ?_
    subst hv
    have hF := hF.same hf4
    have h := h4
    refine ⟨u4, rfl, fun h => hf4.keep _ h fun e => by omega, ?_⟩
    intro w9 hf9 hb9
    have h := (h.re h0 hF hν).frame hf9 (fun i hi hm => .inr (by omega)) (fun hm => by omega)
    have hF := hF.lateP hf9 (fun i hi hm => by omega)
    exact eLeaf h0 hF hν (by omega) h _ _ _ _ _
  have h := hr3' hr
  refine Calls.tell (is_c _ h) fun v w4 ⟨r4, hv, hr4, hf4⟩ => ?_
  subst hv
  have hF := hF.same hf4.ext
  have h := h.still hf4
  refine ⟨r4, rfl, fun h => hf4.keep _ h fun e => e, fun _ => ?_, fun hr => ?_⟩
  · intro w9 hf9 hb9
    have h := (h.re h0 hF hν).frame hf9 (fun i hi hm => .inr (by omega)) (fun hm => by omega)
    have hF := hF.lateP hf9 (fun i hi hm => by omega)
    exact eLeaf h0 hF hν (by omega) h _ _ _ _ _
  have hI2 := hr4 (by simpa using hr)
  refine ⟨I + 1, h.cI, by rw [add_block]; exact hbp, by rw [h.cI]; rfl, h.nofroz 1, ?_⟩
  rw [wrap_i64 (x := I + 1 - 1) (by omega) (by omega), show I + 1 - 1 = I from by omega]
  have hF := hF.same (PS.set_fr (K := K) 1 (.int .i64 I))
  have h := h.setI hν i0 i1
  refine Calls.tell (in_c hν h) fun v w5 ⟨r5, hv, hin, hout, hf5⟩ => ?_
  subst hv
  have hF := hF.same hf5
  refine ⟨r5, rfl, fun h => hf5.keep _ h fun e => by omega, fun hn => ?_, fun hn => ?_⟩
  · obtain ⟨F5, h⟩ := hout (by simpa using hn)
    intro w9 hf9 hb9
    have h := (h.re h0 hF hν).frame hf9 (fun i hi hm => .inr (by omega)) (fun hm => by omega)
    have hF := hF.lateP hf9 (fun i hi hm => by omega)
    exact eLeaf h0 hF hν (by omega) h _ _ _ _ _
  obtain ⟨_, hd1, h⟩ := hin (by simpa using hn)
  refine ⟨I, h.cI, by rw [add_block]; exact hbp, by rw [h.cI]; rfl, h.nofroz 1, ?_⟩
  rw [wrap_i64 (x := I + 2) (by omega) (by omega)]
  have hF := hF.same (PS.set_fr (K := K) 1 (.int .i64 (I + 2)))
  have h := h.setI hν (J := I + 2) (by omega) (by omega)
  intro bn hbn hne
  have hz := hF.size
  have hbn' : K.pb ≠ bn := by omega
  refine ⟨fun h => by rw [h]; rfl, fun h => by rw [h]; rfl, fun h => by rw [h]; rfl, fun _ => ⟨fun _ => ?_, fun hcount => ?_⟩, fun _ => ⟨fun _ => ?_, fun hcount => ?_⟩⟩
  · intro w9 hf9 hb9 hc9
    have h := (h.re h0 hF hν).frame hf9 (fun i hi hm => .inr (by omega)) (fun hm => by omega)
    have hF := hF.lateP hf9 (fun i hi hm => by omega)
    refine Calls.tell (hX K (fun i => ν i ∨ i = bn ∨ i = b) _ (I + 2) 0 (D + 1) 1 (.inl hν) (fun i hi => hi.elim (fun h => Nat.lt_of_lt_of_le (hlt i h) hF.size) fun h => by omega) ((h.re h0 hF hν).anti fun i _ h => h.elim .inl fun h => .inr (by omega)) (by omega) (by omega) (by omega)) fun v w5 ⟨y, k, o, s, t, m, q, ql, qc, hv, hy, ⟨J5, F5, hJ5, h5⟩, hf5⟩ => ?_
    subst hv
    have hF := hF.same hf5
    refine ⟨k, o, s, t, m, q, ql, qc, rfl, fun h => hf5.keep _ h fun e => by omega, fun h => hf5.keep _ h fun e => by omega, ?_⟩
    intro w6 hw6
    have hs : NdS (fun i => ν i ∨ i = bn ∨ i = b) w6 [y] (some (⟨w5.heap.size, 0, none⟩ : Addr)) 1 := by rw [hw6]; exact (own_one (base := w5.heap.size) (Nat.le_refl _) hy).nds fun i hi => hi.elim (fun h => Nat.lt_of_lt_of_le (hlt i h) hF.size) fun h => by have := hf5.size; omega
    have hf6 : Fr (fun _ => False) w5 w6 := by rw [hw6]; exact alloc_still _ _
    have hF := hF.same hf6.ext
    have h := h5.still hf6
    intro w9 hf9 hb9 hc9
    have h := (h.re h0 hF hν).frame hf9 (fun i hi hm => .inr (by omega)) (fun hm => by omega)
    have hF := hF.lateP hf9 (fun i hi hm => by omega)
    have hs := hs.frame hf9 (fun i hi hm => .inr hm)
    refine Calls.tell (want_c _ (.inl hν) h) fun v w7 ⟨hv, ⟨J7, F7, hJ7, h7⟩, hf7⟩ => ?_
    subst hv
    have hF := hF.same hf7
    have h := h7
    refine ⟨rfl, fun h => hf7.keep _ h fun e => by omega, fun h => hf7.keep _ h fun e => by omega, ?_⟩
    have hs := hs.frame hf7 (fun i _ hm => .inl (hm ▸ hν))
    refine ⟨D + 1, h.cD, by rw [add_block]; exact hbn', by rw [add_block]; exact hbp, by rw [h.cD]; rfl, h.nofroz 4, ?_⟩
    rw [wrap_i64 (by omega) (by omega), show D + 1 - 1 = D from by omega]
    have hF := hF.same (PS.set_fr (K := K) 4 (.int .i64 D))
    have h := h.setD (.inl hν) (F := D) d0 (by omega)
    have hs := hs.frame (PS.set_fr (K := K) 4 (.int .i64 D)) (fun i _ hm => .inl (hm ▸ hν))
    intro w9 hf9 hb9 hc9
    have h := (h.re h0 hF hν).frame hf9 (fun i hi hm => .inr (by omega)) (fun hm => by omega)
    have hF := hF.lateP hf9 (fun i hi hm => by omega)
    have hs := hs.frame hf9 (fun i hi hm => .inr hm)
    exact eNode h0 hF hν (by omega) h (hs.anti fun _ _ h => .inl h) (Nat.le_refl _) _ _ _ _ _
  · refine ⟨by rw [hcount]; rfl, ?_⟩
    intro w9 hf9 hb9 hc9
    have h := (h.re h0 hF hν).frame hf9 (fun i hi hm => .inr (by omega)) (fun hm => by omega)
    have hF := hF.lateP hf9 (fun i hi hm => by omega)
    refine Calls.tell (take_c _ (.inl hν) h) fun v w4 ⟨r4, hv, hr4, hr4', hf4⟩ => ?_
    subst hv
    have hz4 := hf4.size
    have hF := hF.same hf4
    refine ⟨r4, rfl, fun h => hf4.keep _ h fun e => by omega, fun h => hf4.keep _ h fun e => by omega, fun hr => ?_, fun hr => ?_⟩
    · have h := hr4' (by simpa using hr)
      refine Calls.tell (hX K (fun i => ν i ∨ i = bn ∨ i = b) _ (I + 2) 0 (D + 1) 1 (.inl hν) (fun i hi => hi.elim (fun h => Nat.lt_of_lt_of_le (hlt i h) hF.size) fun h => by omega) ((h.re h0 hF hν).anti fun i _ h => h.elim .inl fun h => .inr (by omega)) (by omega) (by omega) (by omega)) fun v w5 ⟨y, k, o, s, t, m, q, ql, qc, hv, hy, ⟨J5, F5, hJ5, h5⟩, hf5⟩ => ?_
      subst hv
      have hF := hF.same hf5
      refine ⟨k, o, s, t, m, q, ql, qc, rfl, fun h => hf5.keep _ h fun e => by omega, fun h => hf5.keep _ h fun e => by omega, ?_⟩
      intro w6 hw6
      have hs : NdS (fun i => ν i ∨ i = bn ∨ i = b) w6 [y] (some (⟨w5.heap.size, 0, none⟩ : Addr)) 1 := by rw [hw6]; exact (own_one (base := w5.heap.size) (Nat.le_refl _) hy).nds fun i hi => hi.elim (fun h => Nat.lt_of_lt_of_le (hlt i h) hF.size) fun h => by have := hf5.size; omega
      have hf6 : Fr (fun _ => False) w5 w6 := by rw [hw6]; exact alloc_still _ _
      have hF := hF.same hf6.ext
      have h := h5.still hf6
      intro w9 hf9 hb9 hc9
      have h := (h.re h0 hF hν).frame hf9 (fun i hi hm => .inr (by omega)) (fun hm => by omega)
      have hF := hF.lateP hf9 (fun i hi hm => by omega)
      have hs := hs.frame hf9 (fun i hi hm => .inr hm)
      refine Calls.tell (want_c _ (.inl hν) h) fun v w7 ⟨hv, ⟨J7, F7, hJ7, h7⟩, hf7⟩ => ?_
      subst hv
      have hF := hF.same hf7
      have h := h7
      refine ⟨rfl, fun h => hf7.keep _ h fun e => by omega, fun h => hf7.keep _ h fun e => by omega, ?_⟩
      have hs := hs.frame hf7 (fun i _ hm => .inl (hm ▸ hν))
      refine ⟨D + 1, h.cD, by rw [add_block]; exact hbn', by rw [add_block]; exact hbp, by rw [h.cD]; rfl, h.nofroz 4, ?_⟩
      rw [wrap_i64 (by omega) (by omega), show D + 1 - 1 = D from by omega]
      have hF := hF.same (PS.set_fr (K := K) 4 (.int .i64 D))
      have h := h.setD (.inl hν) (F := D) d0 (by omega)
      have hs := hs.frame (PS.set_fr (K := K) 4 (.int .i64 D)) (fun i _ hm => .inl (hm ▸ hν))
      intro w9 hf9 hb9 hc9
      have h := (h.re h0 hF hν).frame hf9 (fun i hi hm => .inr (by omega)) (fun hm => by omega)
      have hF := hF.lateP hf9 (fun i hi hm => by omega)
      have hs := hs.frame hf9 (fun i hi hm => .inr hm)
      exact eNode h0 hF hν (by omega) h (hs.anti fun _ _ h => .inl h) (Nat.le_refl _) _ _ _ _ _
    · have h := (hr4 (by simpa using hr)).2.2
      refine Calls.tell (want_c _ (.inl hν) h) fun v w7 ⟨hv, ⟨J7, F7, hJ7, h7⟩, hf7⟩ => ?_
      subst hv
      have hF := hF.same hf7
      have h := h7
      refine ⟨rfl, fun h => hf7.keep _ h fun e => by omega, fun h => hf7.keep _ h fun e => by omega, ?_⟩
      refine ⟨D + 1, h.cD, by rw [add_block]; exact hbn', by rw [add_block]; exact hbp, by rw [h.cD]; rfl, h.nofroz 4, ?_⟩
      rw [wrap_i64 (by omega) (by omega), show D + 1 - 1 = D from by omega]
      have hF := hF.same (PS.set_fr (K := K) 4 (.int .i64 D))
      have h := h.setD (.inl hν) (F := D) d0 (by omega)
      intro w9 hf9 hb9 hc9
      have h := (h.re h0 hF hν).frame hf9 (fun i hi hm => .inr (by omega)) (fun hm => by omega)
      have hF := hF.lateP hf9 (fun i hi hm => by omega)
      exact eLeaf h0 hF hν (by omega) h _ _ _ _ _
  · intro w9 hf9 hb9 hc9
    have h := (h.re h0 hF hν).frame hf9 (fun i hi hm => .inr (by omega)) (fun hm => by omega)
    have hF := hF.lateP hf9 (fun i hi hm => by omega)
    refine Calls.tell (hX K (fun i => ν i ∨ i = bn ∨ i = b) _ (I + 2) 0 (D + 1) 1 (.inl hν) (fun i hi => hi.elim (fun h => Nat.lt_of_lt_of_le (hlt i h) hF.size) fun h => by omega) ((h.re h0 hF hν).anti fun i _ h => h.elim .inl fun h => .inr (by omega)) (by omega) (by omega) (by omega)) fun v w5 ⟨y, k, o, s, t, m, q, ql, qc, hv, hy, ⟨J5, F5, hJ5, h5⟩, hf5⟩ => ?_
    subst hv
    have hF := hF.same hf5
    refine ⟨k, o, s, t, m, q, ql, qc, rfl, fun h => hf5.keep _ h fun e => by omega, fun h => hf5.keep _ h fun e => by omega, ?_⟩
    intro w6 hw6
    have hs : NdS (fun i => ν i ∨ i = bn ∨ i = b) w6 [y] (some (⟨w5.heap.size, 0, none⟩ : Addr)) 1 := by rw [hw6]; exact (own_one (base := w5.heap.size) (Nat.le_refl _) hy).nds fun i hi => hi.elim (fun h => Nat.lt_of_lt_of_le (hlt i h) hF.size) fun h => by have := hf5.size; omega
    have hf6 : Fr (fun _ => False) w5 w6 := by rw [hw6]; exact alloc_still _ _
    have hF := hF.same hf6.ext
    have h := h5.still hf6
    intro w9 hf9 hb9 hc9
    have h := (h.re h0 hF hν).frame hf9 (fun i hi hm => .inr (by omega)) (fun hm => by omega)
    have hF := hF.lateP hf9 (fun i hi hm => by omega)
    have hs := hs.frame hf9 (fun i hi hm => .inr hm)
    refine Calls.tell (want_c _ (.inl hν) h) fun v w7 ⟨hv, ⟨J7, F7, hJ7, h7⟩, hf7⟩ => ?_
    subst hv
    have hF := hF.same hf7
    have h := h7
    refine ⟨rfl, fun h => hf7.keep _ h fun e => by omega, fun h => hf7.keep _ h fun e => by omega, ?_⟩
    have hs := hs.frame hf7 (fun i _ hm => .inl (hm ▸ hν))
    refine ⟨D + 1, h.cD, by rw [add_block]; exact hbn', by rw [add_block]; exact hbp, by rw [h.cD]; rfl, h.nofroz 4, ?_⟩
    rw [wrap_i64 (by omega) (by omega), show D + 1 - 1 = D from by omega]
    have hF := hF.same (PS.set_fr (K := K) 4 (.int .i64 D))
    have h := h.setD (.inl hν) (F := D) d0 (by omega)
    have hs := hs.frame (PS.set_fr (K := K) 4 (.int .i64 D)) (fun i _ hm => .inl (hm ▸ hν))
    intro w9 hf9 hb9 hc9
    have h := (h.re h0 hF hν).frame hf9 (fun i hi hm => .inr (by omega)) (fun hm => by omega)
    have hF := hF.lateP hf9 (fun i hi hm => by omega)
    have hs := hs.frame hf9 (fun i hi hm => .inr hm)
    exact eNode h0 hF hν (by omega) h (hs.anti fun _ _ h => .inl h) (Nat.le_refl _) _ _ _ _ _
  · refine ⟨by rw [hcount]; rfl, ?_⟩
    intro w9 hf9 hb9 hc9
    have h := (h.re h0 hF hν).frame hf9 (fun i hi hm => .inr (by omega)) (fun hm => by omega)
    have hF := hF.lateP hf9 (fun i hi hm => by omega)
    refine Calls.tell (take_c _ (.inl hν) h) fun v w4 ⟨r4, hv, hr4, hr4', hf4⟩ => ?_
    subst hv
    have hz4 := hf4.size
    have hF := hF.same hf4
    refine ⟨r4, rfl, fun h => hf4.keep _ h fun e => by omega, fun h => hf4.keep _ h fun e => by omega, fun hr => ?_, fun hr => ?_⟩
    · have h := hr4' (by simpa using hr)
      refine Calls.tell (hX K (fun i => ν i ∨ i = bn ∨ i = b) _ (I + 2) 0 (D + 1) 1 (.inl hν) (fun i hi => hi.elim (fun h => Nat.lt_of_lt_of_le (hlt i h) hF.size) fun h => by omega) ((h.re h0 hF hν).anti fun i _ h => h.elim .inl fun h => .inr (by omega)) (by omega) (by omega) (by omega)) fun v w5 ⟨y, k, o, s, t, m, q, ql, qc, hv, hy, ⟨J5, F5, hJ5, h5⟩, hf5⟩ => ?_
      subst hv
      have hF := hF.same hf5
      refine ⟨k, o, s, t, m, q, ql, qc, rfl, fun h => hf5.keep _ h fun e => by omega, fun h => hf5.keep _ h fun e => by omega, ?_⟩
      intro w6 hw6
      have hs : NdS (fun i => ν i ∨ i = bn ∨ i = b) w6 [y] (some (⟨w5.heap.size, 0, none⟩ : Addr)) 1 := by rw [hw6]; exact (own_one (base := w5.heap.size) (Nat.le_refl _) hy).nds fun i hi => hi.elim (fun h => Nat.lt_of_lt_of_le (hlt i h) hF.size) fun h => by have := hf5.size; omega
      have hf6 : Fr (fun _ => False) w5 w6 := by rw [hw6]; exact alloc_still _ _
      have hF := hF.same hf6.ext
      have h := h5.still hf6
      intro w9 hf9 hb9 hc9
      have h := (h.re h0 hF hν).frame hf9 (fun i hi hm => .inr (by omega)) (fun hm => by omega)
      have hF := hF.lateP hf9 (fun i hi hm => by omega)
      have hs := hs.frame hf9 (fun i hi hm => .inr hm)
      refine Calls.tell (want_c _ (.inl hν) h) fun v w7 ⟨hv, ⟨J7, F7, hJ7, h7⟩, hf7⟩ => ?_
      subst hv
      have hF := hF.same hf7
      have h := h7
      refine ⟨rfl, fun h => hf7.keep _ h fun e => by omega, fun h => hf7.keep _ h fun e => by omega, ?_⟩
      have hs := hs.frame hf7 (fun i _ hm => .inl (hm ▸ hν))
      refine ⟨D + 1, h.cD, by rw [add_block]; exact hbn', by rw [add_block]; exact hbp, by rw [h.cD]; rfl, h.nofroz 4, ?_⟩
      rw [wrap_i64 (by omega) (by omega), show D + 1 - 1 = D from by omega]
      have hF := hF.same (PS.set_fr (K := K) 4 (.int .i64 D))
      have h := h.setD (.inl hν) (F := D) d0 (by omega)
      have hs := hs.frame (PS.set_fr (K := K) 4 (.int .i64 D)) (fun i _ hm => .inl (hm ▸ hν))
      intro w9 hf9 hb9 hc9
      have h := (h.re h0 hF hν).frame hf9 (fun i hi hm => .inr (by omega)) (fun hm => by omega)
      have hF := hF.lateP hf9 (fun i hi hm => by omega)
      have hs := hs.frame hf9 (fun i hi hm => .inr hm)
      exact eNode h0 hF hν (by omega) h (hs.anti fun _ _ h => .inl h) (Nat.le_refl _) _ _ _ _ _
    · have h := (hr4 (by simpa using hr)).2.2
      refine Calls.tell (want_c _ (.inl hν) h) fun v w7 ⟨hv, ⟨J7, F7, hJ7, h7⟩, hf7⟩ => ?_
      subst hv
      have hF := hF.same hf7
      have h := h7
      refine ⟨rfl, fun h => hf7.keep _ h fun e => by omega, fun h => hf7.keep _ h fun e => by omega, ?_⟩
      refine ⟨D + 1, h.cD, by rw [add_block]; exact hbn', by rw [add_block]; exact hbp, by rw [h.cD]; rfl, h.nofroz 4, ?_⟩
      rw [wrap_i64 (by omega) (by omega), show D + 1 - 1 = D from by omega]
      have hF := hF.same (PS.set_fr (K := K) 4 (.int .i64 D))
      have h := h.setD (.inl hν) (F := D) d0 (by omega)
      intro w9 hf9 hb9 hc9
      have h := (h.re h0 hF hν).frame hf9 (fun i hi hm => .inr (by omega)) (fun hm => by omega)
      have hF := hF.lateP hf9 (fun i hi hm => by omega)
      exact eLeaf h0 hF hν (by omega) h _ _ _ _ _
end Go.Proofs.Ytjlkgedcpmoehaa
