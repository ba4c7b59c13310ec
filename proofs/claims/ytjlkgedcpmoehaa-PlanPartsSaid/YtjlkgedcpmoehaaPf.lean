/-
  Contracts of the parser: expressions, given what compare does.
-/
import Derived.Test.YtjlkgedcpmoehaaPe
set_option linter.unusedVariables false
set_option linter.unusedSimpArgs false
set_option maxRecDepth 100000
namespace Go.Proofs.Ytjlkgedcpmoehaa
open Go Go.Vc
variable {K : PK} {ν μ : Nat → Prop} {w w' : World} {I E D J F : Int}

/-- Two nodes in a new row. -/
theorem own_two {μ : Nat → Prop} {w : World} {base : Nat} {x y : Nd} {k o : Int} {s t : ByteArray} {n : Int} {p : Option Addr} {len cap : Nat} {k' o' : Int} {s' t' : ByteArray} {n' : Int} {p' : Option Addr} {len' cap' : Nat} (hb : base ≤ w.heap.size)
    (h : NdV μ w x k o s t n p len cap) (h' : NdV μ w y k' o' s' t' n' p' len' cap') :
    OwnS μ (w.alloc (.cells #[.int .i64 k, .int .i64 o, .string s, .string t, .int .i64 n, .slice p len cap, .int .i64 k', .int .i64 o', .string s', .string t', .int .i64 n', .slice p' len' cap'] 24)) base 24 [x, y] (.slice (some (⟨w.heap.size, 0, none⟩ : Addr)) 2 2) :=
  OwnS.lit (l := [x, y]) (xs := [.int .i64 k, .int .i64 o, .string s, .string t, .int .i64 n, .slice p len cap, .int .i64 k', .int .i64 o', .string s', .string t', .int .i64 n', .slice p' len' cap']) hb (by simp [maxLen])
    ⟨k, o, s, t, n, p, len, cap, [.int .i64 k', .int .i64 o', .string s', .string t', .int .i64 n', .slice p' len' cap'], rfl, h, k', o', s', t', n', p', len', cap', [], rfl, h', rfl⟩

def CompareC (N : Nat) : Prop := ∀ (K : PK) (ν : Nat → Prop) (w : World) (I E D : Int) (x : Nd) (k o : Int) (s t : ByteArray) (m : Int) (q : Option Addr) (ql qc : Nat), ν K.pb → (∀ i, ν i → i < w.heap.size) → PS K ν w I E D → NdV ν w x k o s t m q ql qc → ((K.n : Int) - I) * 13 ≤ (N : Int) + 2 →
  Calls Try.prog 38 #[.pointer (some K.p), nv k o s t m q ql qc] w (Ret (EOut K ν I D w))

theorem expr_of {N : Nat} (hX : ExprC N) (hC : CompareC N) : ExprC (N + 1) := by
  intro K ν w I E D level hν hlt h0 hl1 hl11 hN
  refine Sh.ref17_Parser_Expr_calls _ _ ?_
  unfold Sh.ref17_Parser_Expr
  have hpl := h0.lt
  have i0 := h0.i0
  have i1 := h0.i1
  have hn := h0.len
  have d0 := h0.d0
  intro b hb w1 hf1 hl1
  have hbp : K.pb ≠ b := by omega
  have hF : Fr (fun i => i = K.pb) w w1 := (frOne hb hf1).ext
  have h := h0.re h0 (Fr.refl _ _) hν
  have h := h.frame hf1 (fun i hi hm => .inr (by omega)) (fun hm => by omega)
  push_cast at hN
  refine ⟨E, h.cE, fun _ => ?_, fun hE => ⟨fun hl => ?_, fun hl3 => ⟨fun hl => ?_, fun hl4 => ⟨fun hl => ?_, fun hl10 => ⟨fun hl => ?_, fun hl11' => ?_⟩⟩⟩⟩⟩
  · intro w9 hf9 hb9
    have h := (h.re h0 hF hν).frame hf9 (fun i hi hm => .inr (by omega)) (fun hm => by omega)
    have hF := hF.lateP hf9 (fun i hi hm => by omega)
    exact eLeaf h0 hF hν (by omega) h _ _ _ _ _
  · -- level 3
    have hl : level = 3 := by simpa using hl
    subst hl
    refine Calls.tell (is_c _ h) fun v w4 ⟨r4, hv, hr4, hf4⟩ => ?_
    subst hv
    have hz4 := hf4.size
    have hF := hF.same hf4.ext
    have h := h.still hf4
    refine ⟨r4, rfl, fun h => hf4.keep _ h fun e => e, fun hr => ?_, fun hr => ?_⟩
    · refine Calls.tell (hX K (fun i => ν i ∨ i = b) _ I _ D 4 (.inl hν) (fun i hi => hi.elim (fun h => Nat.lt_of_lt_of_le (hlt i h) hF.size) fun h => by first | omega | (simp only [setCell_size]; omega)) ((h.re h0 hF hν).anti fun i _ h => h.elim .inl fun h => .inr (by omega)) (by omega) (by omega) (by omega)) fun v w6 ⟨y, k, o, s, t, m, q, ql, qc, hv, hy, ⟨J6, F6, hJ6, h6⟩, hf6⟩ => ?_
      subst hv
      have hz6 := hf6.size
      have hF := hF.same hf6
      have h := h6
      have j6 := h6.i1
      refine ⟨k, o, s, t, m, q, ql, qc, rfl, fun h => hf6.keep _ h fun e => by omega, ?_⟩
      intro w9 hf9 hb9
      have h := (h.re h0 hF hν).frame hf9 (fun i hi hm => .inr (by omega)) (fun hm => by omega)
      have hF := hF.lateP hf9 (fun i hi hm => by omega)
      have hs := hy.frame hf9 fun i hi hm => .inr hm
      exact ⟨y, k, o, s, t, m, q, ql, qc, rfl, hs.anti fun _ _ h => .inl h, ⟨_, _, by omega, (h.re h0 hF hν).anti fun _ _ h => .inl h⟩, hF⟩
    · have hI := hr4 (by simpa using hr)
      refine Calls.tell (in_c (.inl hν) h) fun v w5 ⟨r5, hv, hin, hout, hf5⟩ => ?_
      subst hv
      have hz5 := hf5.size
      have hF := hF.same hf5
      refine ⟨r5, rfl, fun h => hf5.keep _ h fun e => by omega, fun hn => ?_, fun hn => ?_⟩
      · obtain ⟨F5, h⟩ := hout (by simpa using hn)
        intro w9 hf9 hb9
        have h := (h.re h0 hF hν).frame hf9 (fun i hi hm => .inr (by omega)) (fun hm => by omega)
        have hF := hF.lateP hf9 (fun i hi hm => by omega)
        exact eLeaf h0 hF hν (by omega) h _ _ _ _ _
      · obtain ⟨_, hd1, h⟩ := hin (by simpa using hn)
        refine ⟨I, h.cI, by rw [add_block]; exact hbp, by rw [h.cI]; rfl, h.nofroz 1, ?_⟩
        rw [wrap_i64 (x := I + 1) (by omega) (by omega)]
        have hF := hF.same (PS.set_fr (K := K) 1 (.int .i64 (I + 1)))
        have h := h.setI (.inl hν) (J := I + 1) (by omega) (by omega)
        refine Calls.tell (hX K (fun i => ν i ∨ i = b) _ (I+1) _ (D+1) 3 (.inl hν) (fun i hi => hi.elim (fun h => Nat.lt_of_lt_of_le (hlt i h) hF.size) fun h => by first | omega | (simp only [setCell_size]; omega)) ((h.re h0 hF hν).anti fun i _ h => h.elim .inl fun h => .inr (by omega)) (by omega) (by omega) (by omega)) fun v w6 ⟨y, k, o, s, t, m, q, ql, qc, hv, hy, ⟨J6, F6, hJ6, h6⟩, hf6⟩ => ?_
        subst hv
        have hz6 := hf6.size
        have hF := hF.same hf6
        have h := h6
        have j6 := h6.i1
        refine ⟨k, o, s, t, m, q, ql, qc, rfl, fun h => hf6.keep _ h fun e => by omega, ?_⟩
        intro w7 hw7
        have hf7 : Fr (fun _ => False) w6 w7 := by rw [hw7]; exact alloc_still _ _
        have hs : NdS (fun i => ν i ∨ i = b) w7 [y] (some (⟨w6.heap.size, 0, none⟩ : Addr)) 1 := by rw [hw7]; exact (own_one (base := w6.heap.size) (Nat.le_refl _) hy).nds fun i hi => hi.elim (fun h => Nat.lt_of_lt_of_le (hlt i h) hF.size) fun h => by simp only [setCell_size] at hz6; omega
        have hs := hs.anti (ν := fun i => ν i ∨ i = b ∨ w7.heap.size ≤ i) fun i hi h => h.elim .inl fun h => .inr (by omega)
        have hF := hF.same hf7.ext
        have h := h.still hf7
        intro bn hbn hne
        have hz7 := hF.size
        have hbn' : K.pb ≠ bn := by omega
        intro w9 hf9 hb9 hc9
        have h := (h.re h0 hF hν).frame hf9 (fun i hi hm => .inr (by omega)) (fun hm => by omega)
        have hF := hF.lateP hf9 (fun i hi hm => by omega)
        have hs := hs.frame hf9 (fun i hi hm => .inr (by omega))
        refine ⟨D + 1, h.cD, by rw [add_block]; exact hbn', by rw [add_block]; exact hbp, by rw [h.cD]; rfl, h.nofroz 4, ?_⟩
        rw [wrap_i64 (by omega) (by omega), show D + 1 - 1 = D from by omega]
        have hF := hF.same (PS.set_fr (K := K) 4 (.int .i64 D))
        have h := h.setD (.inl hν) (F := D) d0 (by omega)
        have hs := hs.frame (PS.set_fr (K := K) 4 (.int .i64 D)) (fun i _ hm => .inl (hm ▸ hν))
        intro w9 hf9 hb9 hc9
        have h := (h.re h0 hF hν).frame hf9 (fun i hi hm => .inr (by omega)) (fun hm => by omega)
        have hF := hF.lateP hf9 (fun i hi hm => by omega)
        have hs := hs.frame hf9 (fun i hi hm => .inr (by omega))
        exact eNode h0 hF hν (by omega) h (hs.anti fun _ _ h => .inl h) (Nat.le_refl _) _ _ _ _ _
  · -- level 4
    have hl : level = 4 := by simpa using hl
    subst hl
    refine Calls.tell (hX K (fun i => ν i ∨ i = b) w1 I E D 5 (.inl hν) (fun i hi => hi.elim (fun h => Nat.lt_of_lt_of_le (hlt i h) hF.size) fun h => by first | omega | (simp only [setCell_size]; omega)) (h.anti fun i _ h => h.elim .inl fun h => .inr (by omega)) (by omega) (by omega) (by omega)) fun v w6 ⟨y, k, o, s, t, m, q, ql, qc, hv, hy, ⟨J6, F6, hJ6, h6⟩, hf6⟩ => ?_
    subst hv
    have hz6 := hf6.size
    have hF := hF.same hf6
    refine ⟨k, o, s, t, m, q, ql, qc, rfl, fun h => hf6.keep _ h fun e => by omega, ?_⟩
    refine Calls.tell (hC K (fun i => ν i ∨ i = b) w6 J6 F6 D y k o s t m q ql qc (.inl hν) (fun i hi => hi.elim (fun h => Nat.lt_of_lt_of_le (hlt i h) hF.size) fun h => by first | omega | (simp only [setCell_size]; omega)) h6 hy (by omega)) fun v w7 ⟨y, k, o, s, t, m, q, ql, qc, hv, hy, ⟨J7, F7, hJ7, h7⟩, hf7⟩ => ?_
    subst hv
    have hF := hF.same hf7
    have h := h7
    refine ⟨k, o, s, t, m, q, ql, qc, rfl, fun h => hf7.keep _ h fun e => by omega, ?_⟩
    intro w9 hf9 hb9
    have h := (h.re h0 hF hν).frame hf9 (fun i hi hm => .inr (by omega)) (fun hm => by omega)
    have hF := hF.lateP hf9 (fun i hi hm => by omega)
    have hs := hy.frame hf9 fun i hi hm => .inr hm
    exact ⟨y, k, o, s, t, m, q, ql, qc, rfl, hs.anti fun _ _ h => .inl h, ⟨_, _, by omega, (h.re h0 hF hν).anti fun _ _ h => .inl h⟩, hF⟩
  · -- level 10
    have hl : level = 10 := by simpa using hl
    subst hl
    refine Calls.tell (is_c _ h) fun v w4 ⟨r4, hv, hr4, hf4⟩ => ?_
    subst hv
    have hz4 := hf4.size
    have hF := hF.same hf4.ext
    have h := h.still hf4
    refine ⟨r4, rfl, fun h => hf4.keep _ h fun e => e, fun hr => ?_, fun hr => ?_⟩
    · refine Calls.tell (hX K (fun i => ν i ∨ i = b) _ I _ D 11 (.inl hν) (fun i hi => hi.elim (fun h => Nat.lt_of_lt_of_le (hlt i h) hF.size) fun h => by first | omega | (simp only [setCell_size]; omega)) ((h.re h0 hF hν).anti fun i _ h => h.elim .inl fun h => .inr (by omega)) (by omega) (by omega) (by omega)) fun v w6 ⟨y, k, o, s, t, m, q, ql, qc, hv, hy, ⟨J6, F6, hJ6, h6⟩, hf6⟩ => ?_
      subst hv
      have hz6 := hf6.size
      have hF := hF.same hf6
      have h := h6
      have j6 := h6.i1
      refine ⟨k, o, s, t, m, q, ql, qc, rfl, fun h => hf6.keep _ h fun e => by omega, ?_⟩
      intro w9 hf9 hb9
      have h := (h.re h0 hF hν).frame hf9 (fun i hi hm => .inr (by omega)) (fun hm => by omega)
      have hF := hF.lateP hf9 (fun i hi hm => by omega)
      have hs := hy.frame hf9 fun i hi hm => .inr hm
      exact ⟨y, k, o, s, t, m, q, ql, qc, rfl, hs.anti fun _ _ h => .inl h, ⟨_, _, by omega, (h.re h0 hF hν).anti fun _ _ h => .inl h⟩, hF⟩
    · have hI := hr4 (by simpa using hr)
      refine Calls.tell (in_c (.inl hν) h) fun v w5 ⟨r5, hv, hin, hout, hf5⟩ => ?_
      subst hv
      have hz5 := hf5.size
      have hF := hF.same hf5
      refine ⟨r5, rfl, fun h => hf5.keep _ h fun e => by omega, fun hn => ?_, fun hn => ?_⟩
      · obtain ⟨F5, h⟩ := hout (by simpa using hn)
        intro w9 hf9 hb9
        have h := (h.re h0 hF hν).frame hf9 (fun i hi hm => .inr (by omega)) (fun hm => by omega)
        have hF := hF.lateP hf9 (fun i hi hm => by omega)
        exact eLeaf h0 hF hν (by omega) h _ _ _ _ _
      · obtain ⟨_, hd1, h⟩ := hin (by simpa using hn)
        refine ⟨I, h.cI, by rw [add_block]; exact hbp, by rw [h.cI]; rfl, h.nofroz 1, ?_⟩
        rw [wrap_i64 (x := I + 1) (by omega) (by omega)]
        have hF := hF.same (PS.set_fr (K := K) 1 (.int .i64 (I + 1)))
        have h := h.setI (.inl hν) (J := I + 1) (by omega) (by omega)
        refine Calls.tell (hX K (fun i => ν i ∨ i = b) _ (I+1) _ (D+1) 10 (.inl hν) (fun i hi => hi.elim (fun h => Nat.lt_of_lt_of_le (hlt i h) hF.size) fun h => by first | omega | (simp only [setCell_size]; omega)) ((h.re h0 hF hν).anti fun i _ h => h.elim .inl fun h => .inr (by omega)) (by omega) (by omega) (by omega)) fun v w6 ⟨y, k, o, s, t, m, q, ql, qc, hv, hy, ⟨J6, F6, hJ6, h6⟩, hf6⟩ => ?_
        subst hv
        have hz6 := hf6.size
        have hF := hF.same hf6
        have h := h6
        have j6 := h6.i1
        refine ⟨k, o, s, t, m, q, ql, qc, rfl, fun h => hf6.keep _ h fun e => by omega, ?_⟩
        intro w7 hw7
        have hf7 : Fr (fun _ => False) w6 w7 := by rw [hw7]; exact alloc_still _ _
        have hs : NdS (fun i => ν i ∨ i = b) w7 [y] (some (⟨w6.heap.size, 0, none⟩ : Addr)) 1 := by rw [hw7]; exact (own_one (base := w6.heap.size) (Nat.le_refl _) hy).nds fun i hi => hi.elim (fun h => Nat.lt_of_lt_of_le (hlt i h) hF.size) fun h => by simp only [setCell_size] at hz6; omega
        have hs := hs.anti (ν := fun i => ν i ∨ i = b ∨ w7.heap.size ≤ i) fun i hi h => h.elim .inl fun h => .inr (by omega)
        have hF := hF.same hf7.ext
        have h := h.still hf7
        intro bn hbn hne
        have hz7 := hF.size
        have hbn' : K.pb ≠ bn := by omega
        intro w9 hf9 hb9 hc9
        have h := (h.re h0 hF hν).frame hf9 (fun i hi hm => .inr (by omega)) (fun hm => by omega)
        have hF := hF.lateP hf9 (fun i hi hm => by omega)
        have hs := hs.frame hf9 (fun i hi hm => .inr (by omega))
        refine ⟨D + 1, h.cD, by rw [add_block]; exact hbn', by rw [add_block]; exact hbp, by rw [h.cD]; rfl, h.nofroz 4, ?_⟩
        rw [wrap_i64 (by omega) (by omega), show D + 1 - 1 = D from by omega]
        have hF := hF.same (PS.set_fr (K := K) 4 (.int .i64 D))
        have h := h.setD (.inl hν) (F := D) d0 (by omega)
        have hs := hs.frame (PS.set_fr (K := K) 4 (.int .i64 D)) (fun i _ hm => .inl (hm ▸ hν))
        intro w9 hf9 hb9 hc9
        have h := (h.re h0 hF hν).frame hf9 (fun i hi hm => .inr (by omega)) (fun hm => by omega)
        have hF := hF.lateP hf9 (fun i hi hm => by omega)
        have hs := hs.frame hf9 (fun i hi hm => .inr (by omega))
        exact eNode h0 hF hν (by omega) h (hs.anti fun _ _ h => .inl h) (Nat.le_refl _) _ _ _ _ _
  · -- level 11
    have hl : level = 11 := by simpa using hl
    subst hl
    refine Calls.tell (first_of hX (ν := fun i => ν i ∨ i = b) (.inl hν) (fun i hi => hi.elim (fun h => Nat.lt_of_lt_of_le (hlt i h) hF.size) fun h => by omega) (h.anti fun i _ h => h.elim .inl fun h => .inr (by omega)) (by omega)) fun v w6 ⟨y, k, o, s, t, m, q, ql, qc, hv, hy, ⟨J6, F6, hJ6, h6⟩, hf6⟩ => ?_
    subst hv
    have hz6 := hf6.size
    have hF := hF.same hf6
    have h := h6
    refine ⟨k, o, s, t, m, q, ql, qc, rfl, fun h => hf6.keep _ h fun e => by omega, ?_⟩
    intro bn hbn hne
    have hzF := hF.size
    have hbn' : K.pb ≠ bn := by omega
    refine ⟨fun k o s t m q ql qc w' => ∃ (y : Nd) (J F : Int), NdV (fun i => ν i ∨ i = bn ∨ i = b) w' y k o s t m q ql qc ∧ PS K (fun i => ν i ∨ w.heap.size ≤ i) w' J F D ∧ I ≤ J ∧ Fr (fun i => i = K.pb) w w' ∧ bn < w'.heap.size ∧ b < w'.heap.size, fun _ _ _ _ _ _ _ _ w' => K.n - curI K w', ?_, ?_⟩
    · intro w9 hf9 hb9 hc9
      have h := (h.re h0 hF hν).frame hf9 (fun i hi hm => .inr (by omega)) (fun hm => by omega)
      have hF := hF.lateP hf9 (fun i hi hm => by omega)
      exact ⟨y, J6, F6, (hy.anti fun i hi h => h.elim .inl fun h => .inr (by omega)).frame hf9 (fun i hi hm => .inr hm), h, hJ6, hF, hb9, hc9⟩
    rintro k o s t m q ql qc w7 ⟨y, J, F, hy, h1, hJ, hF, hbz, hcz⟩
    have j1 := h1.i1
    refine Calls.tell (take_c _ (.inl hν) h1) fun v w8 ⟨r8, hv, hr8, hr8', hf8⟩ => ?_
    subst hv
    have hz8 := hf8.size
    have hF := hF.same hf8
    have hy := hy.frame hf8 (fun i _ hm => .inl (hm ▸ hν))
    refine ⟨r8, rfl, fun h => hf8.keep _ h fun e => by omega, fun h => hf8.keep _ h fun e => by omega, fun hr => ?_, fun hr => ?_⟩
    · obtain ⟨_, hJn, h⟩ := hr8 hr
      intro w9 hf9 hb9 hc9
      have h := (h.re h0 hF hν).frame hf9 (fun i hi hm => .inr (by omega)) (fun hm => by omega)
      have hF := hF.lateP hf9 (fun i hi hm => by omega)
      have hy := hy.frame hf9 (fun i hi hm => .inr hm)
      refine ⟨fun i => i = K.pb, ?_, ?_, ?_⟩
      · refine Calls.tell (name_c (.inl hν) h) fun v w3 ⟨u, hv, ⟨J3, F3, hJ3, h3, _⟩, hf3⟩ => ?_
        subst hv
        have hz3 := hf3.size
        refine ⟨u, rfl, fun h => hf3.keep _ h fun e => by omega, fun h => hf3.keep _ h fun e => by omega, ?_⟩
        have hy := hy.frame hf3 (fun i _ hm => .inl (hm ▸ hν))
        have hF := hF.same hf3
        refine ⟨hf3.mono fun _ _ h => .inl h, ?_⟩
        intro w10 hw10
        have hf10 : Fr (fun _ => False) w3 w10 := by rw [hw10]; exact alloc_still _ _
        have hs : NdS (fun i => ν i ∨ i = bn ∨ i = b) w10 [y] (some (⟨w3.heap.size, 0, none⟩ : Addr)) 1 := by rw [hw10]; exact (own_one (base := w3.heap.size) (Nat.le_refl _) hy).nds fun i hi => by rcases hi with hi | hi | hi; exact Nat.lt_of_lt_of_le (hlt i hi) hF.size; omega; omega
        have hF := hF.same hf10.ext
        have h := h3.still hf10
        refine ⟨(hf3.same hf10.ext).mono fun _ _ h => .inl h, ?_⟩
        intro w9 hf9 hb9 hc9
        have h := (h.re h0 hF hν).frame hf9 (fun i hi hm => .inr (by omega)) (fun hm => by omega)
        have hF := hF.lateP hf9 (fun i hi hm => by omega)
        have hs := hs.frame hf9 (fun i hi hm => .inr hm)
        exact ⟨⟨_, J3, F3, ⟨Nat.le_refl _, [y], rfl, hs⟩, h, by omega, hF, hb9, hc9⟩, by dsimp only; rw [h.cur, h1.cur]; have := h.i0; have := h1.i0; omega⟩
      · refine Calls.tell (name_c (.inl hν) h) fun v w3 ⟨u, hv, ⟨J3, F3, hJ3, h3, _⟩, hf3⟩ => ?_
        subst hv
        have hz3 := hf3.size
        refine ⟨u, rfl, fun h => hf3.keep _ h fun e => by omega, fun h => hf3.keep _ h fun e => by omega, ?_⟩
        have hy := hy.frame hf3 (fun i _ hm => .inl (hm ▸ hν))
        have hF := hF.same hf3
        refine ⟨hf3.mono fun _ _ h => .inl h, ?_⟩
        intro w10 hw10
        have hf10 : Fr (fun _ => False) w3 w10 := by rw [hw10]; exact alloc_still _ _
        have hs : NdS (fun i => ν i ∨ i = bn ∨ i = b) w10 [y] (some (⟨w3.heap.size, 0, none⟩ : Addr)) 1 := by rw [hw10]; exact (own_one (base := w3.heap.size) (Nat.le_refl _) hy).nds fun i hi => by rcases hi with hi | hi | hi; exact Nat.lt_of_lt_of_le (hlt i hi) hF.size; omega; omega
        have hF := hF.same hf10.ext
        have h := h3.still hf10
        refine ⟨(hf3.same hf10.ext).mono fun _ _ h => .inl h, ?_⟩
        intro w9 hf9 hb9 hc9
        have h := (h.re h0 hF hν).frame hf9 (fun i hi hm => .inr (by omega)) (fun hm => by omega)
        have hF := hF.lateP hf9 (fun i hi hm => by omega)
        have hs := hs.frame hf9 (fun i hi hm => .inr hm)
        exact ⟨⟨_, J3, F3, ⟨Nat.le_refl _, [y], rfl, hs⟩, h, by omega, hF, hb9, hc9⟩, by dsimp only; rw [h.cur, h1.cur]; have := h.i0; have := h1.i0; omega⟩
      · intro w10 hw10
        have hf10 : Fr (fun _ => False) w9 w10 := by rw [hw10]; exact alloc_still _ _
        have hz10 := hf10.size
        have hs : NdS (fun i => ν i ∨ i = bn ∨ i = b) w10 [y] (some (⟨w9.heap.size, 0, none⟩ : Addr)) 1 := by rw [hw10]; exact (own_one (base := w9.heap.size) (Nat.le_refl _) hy).nds fun i hi => by rcases hi with hi | hi | hi; exact Nat.lt_of_lt_of_le (hlt i hi) hF.size; omega; omega
        have hF := hF.same hf10.ext
        have h := h.still hf10
        refine ⟨hf10.ext, ?_⟩
        refine Calls.tell (name_c (.inl hν) h) fun v w3 ⟨u, hv, ⟨J3, F3, hJ3, h3, _⟩, hf3⟩ => ?_
        subst hv
        have hz3 := hf3.size
        refine ⟨u, rfl, fun h => hf3.keep _ h fun e => by omega, fun h => hf3.keep _ h fun e => by omega, ?_⟩
        have hF := hF.same hf3
        have h := h3
        have hs := hs.frame hf3 (fun i _ hm => .inl (hm ▸ hν))
        refine ⟨(hf10.ext.same hf3).mono fun _ _ h => .inl h, ?_⟩
        intro w9 hf9 hb9 hc9
        have h := (h.re h0 hF hν).frame hf9 (fun i hi hm => .inr (by omega)) (fun hm => by omega)
        have hF := hF.lateP hf9 (fun i hi hm => by omega)
        have hs := hs.frame hf9 (fun i hi hm => .inr hm)
        exact ⟨⟨_, J3, F3, ⟨Nat.le_refl _, [y], rfl, hs⟩, h, by omega, hF, hb9, hc9⟩, by dsimp only; rw [h.cur, h1.cur]; have := h.i0; have := h1.i0; omega⟩
    · have h := hr8' hr
      intro w9 hf9 hb9 hc9
      have h := (h.re h0 hF hν).frame hf9 (fun i hi hm => .inr (by omega)) (fun hm => by omega)
      have hF := hF.lateP hf9 (fun i hi hm => by omega)
      have hs := hy.frame hf9 (fun i hi hm => .inr hm)
      exact ⟨y, k, o, s, t, m, q, ql, qc, rfl, hs.anti fun _ _ h => .inl h, ⟨_, _, by omega, (h.re h0 hF hν).anti fun _ _ h => .inl h⟩, hF⟩
  · -- the others
    have hne11 : level ≠ 11 := by simpa using hl11'
    rw [wrap_i64 (x := level + 1) (by omega) (by omega)]
    refine Calls.tell (hX K (fun i => ν i ∨ i = b) _ I _ D (level+1) (.inl hν) (fun i hi => hi.elim (fun h => Nat.lt_of_lt_of_le (hlt i h) hF.size) fun h => by first | omega | (simp only [setCell_size]; omega)) ((h.re h0 hF hν).anti fun i _ h => h.elim .inl fun h => .inr (by omega)) (by omega) (by omega) (by omega)) fun v w6 ⟨y, k, o, s, t, m, q, ql, qc, hv, hy, ⟨J6, F6, hJ6, h6⟩, hf6⟩ => ?_
    subst hv
    have hz6 := hf6.size
    have hF := hF.same hf6
    have h := h6
    have j6 := h6.i1
    refine ⟨k, o, s, t, m, q, ql, qc, rfl, fun h => hf6.keep _ h fun e => by omega, ?_⟩
    intro bn hbn hne
    have hzF := hF.size
    have hbn' : K.pb ≠ bn := by omega
    refine ⟨fun k o s t m q ql qc w' => ∃ (y : Nd) (J F : Int), NdV (fun i => ν i ∨ i = bn ∨ i = b) w' y k o s t m q ql qc ∧ PS K (fun i => ν i ∨ w.heap.size ≤ i) w' J F D ∧ I ≤ J ∧ Fr (fun i => i = K.pb) w w' ∧ bn < w'.heap.size ∧ b < w'.heap.size, fun _ _ _ _ _ _ _ _ w' => K.n - curI K w', ?_, ?_⟩
    · intro w9 hf9 hb9 hc9
      have h := (h.re h0 hF hν).frame hf9 (fun i hi hm => .inr (by omega)) (fun hm => by omega)
      have hF := hF.lateP hf9 (fun i hi hm => by omega)
      exact ⟨y, J6, F6, (hy.anti fun i hi h => h.elim .inl fun h => .inr (by omega)).frame hf9 (fun i hi hm => .inr hm), h, hJ6, hF, hb9, hc9⟩
    rintro k o s t m q ql qc w7 ⟨y, J, F, hy, h1, hJ, hF, hbz, hcz⟩
    have j0 := h1.i0
    have j1 := h1.i1
    refine ⟨F, h1.cE, fun hE0 => ?_, fun _ => ?_⟩
    · refine Calls.tell (opOf_c level (by omega) h1) fun v w8 ⟨z, hv, hz, hf8⟩ => ?_
      subst hv
      have hz8 := hf8.size
      have hF := hF.same hf8.ext
      have hy := hy.frame hf8 fun _ _ h => h.elim
      have h := h1.still hf8
      refine ⟨z, rfl, fun h => hf8.keep _ h fun e => e, fun h => hf8.keep _ h fun e => e, fun _ => ?_, fun hz0 => ?_⟩
      · intro w9 hf9 hb9 hc9
        have h := (h.re h0 hF hν).frame hf9 (fun i hi hm => .inr (by omega)) (fun hm => by omega)
        have hF := hF.lateP hf9 (fun i hi hm => by omega)
        have hs := hy.frame hf9 (fun i hi hm => .inr hm)
        exact ⟨y, k, o, s, t, m, q, ql, qc, rfl, hs.anti fun _ _ h => .inl h, ⟨_, _, by omega, (h.re h0 hF hν).anti fun _ _ h => .inl h⟩, hF⟩
      · have hJn := hz (by simpa using hz0)
        refine ⟨J, h.cI, by rw [add_block]; exact hbn', by rw [add_block]; exact hbp, by rw [h.cI]; rfl, h.nofroz 1, ?_⟩
        rw [wrap_i64 (x := J + 1) (by omega) (by omega)]
        have hF := hF.same (PS.set_fr (K := K) 1 (.int .i64 (J + 1)))
        have hy := hy.frame (PS.set_fr (K := K) 1 (.int .i64 (J + 1))) (fun i _ hm => .inl (hm ▸ hν))
        have h := h.setI (.inl hν) (J := J + 1) (by omega) (by omega)
        refine Calls.tell (hX K (fun i => ν i ∨ i = bn ∨ i = b) _ (J+1) _ D (level+1) (.inl hν) (fun i hi => by rcases hi with hi | hi | hi; exact Nat.lt_of_lt_of_le (hlt i hi) hF.size; (simp only [setCell_size]; omega); (simp only [setCell_size]; omega)) ((h.re h0 hF hν).anti fun i _ h => h.elim .inl fun h => .inr (by omega)) (by omega) (by omega) (by omega)) fun v w10 ⟨y2, k2, o2, s2, t2, m2, q2, ql2, qc2, hv, hy2, ⟨J2, F2, hJ2, h2⟩, hf10⟩ => ?_
        subst hv
        have hz10 := hf10.size
        simp only [setCell_size] at hz10
        have hF := hF.same hf10
        have hy := hy.frame hf10 (fun i _ hm => .inl (hm ▸ hν))
        refine ⟨k2, o2, s2, t2, m2, q2, ql2, qc2, rfl, fun h => hf10.keep _ h fun e => by omega, fun h => hf10.keep _ h fun e => by omega, ?_⟩
        intro bm hbm hne1 hne2
        have hzG := hF.size
        have h := h2
        intro w9 hf9 hb9 hc9 hd9
        have h := (h.re h0 hF hν).frame hf9 (fun i hi hm => .inr (by omega)) (fun hm => by omega)
        have hF := hF.lateP hf9 (fun i hi hm => by omega)
        have hy := (hy.anti (ν := fun i => ν i ∨ i = bn ∨ i = b ∨ w10.heap.size ≤ i) fun i hi h => h.elim .inl fun h => .inr (by omega)).frame hf9 (fun i hi hm => .inr (by omega))
        have hy2 := (hy2.anti (ν := fun i => ν i ∨ i = bn ∨ i = b ∨ w10.heap.size ≤ i) fun i hi h => h.elim .inl fun h => .inr (by omega)).frame hf9 (fun i hi hm => .inr (by omega))
        intro w11 hw11
        have hs : NdS (fun i => ν i ∨ i = bn ∨ i = b ∨ i = bm) w11 [y, y2] (some (⟨w9.heap.size, 0, none⟩ : Addr)) 2 := by
          rw [hw11]
          refine (own_two (base := w9.heap.size) (Nat.le_refl _) (hy.anti fun i hi h => h.elim .inl fun h => .inr (by omega)) (hy2.anti fun i hi h => h.elim .inl fun h => .inr (by omega))).nds fun i hi => ?_
          rcases hi with hi | hi | hi | hi
          · exact Nat.lt_of_lt_of_le (hlt i hi) hF.size
          · omega
          · omega
          · omega
        have hf11 : Fr (fun _ => False) w9 w11 := by rw [hw11]; exact alloc_still _ _
        have hF := hF.same hf11.ext
        have h := h.still hf11
        intro w12 hf12 hb12 hc12 hd12
        have h := (h.re h0 hF hν).frame hf12 (fun i hi hm => .inr (by omega)) (fun hm => by omega)
        have hF := hF.lateP hf12 (fun i hi hm => by omega)
        have hs := hs.frame hf12 (fun i hi hm => .inr (by omega))
        exact ⟨⟨_, J2, F2, ⟨Nat.le_refl _, [y, y2], rfl, hs.anti fun i _ h => h.elim .inl fun h => .inr (by omega)⟩, h, by omega, hF, hc12, hd12⟩, by dsimp only; rw [h.cur, h1.cur]; have := h.i0; omega⟩
    · have h := h1
      intro w9 hf9 hb9 hc9
      have h := (h.re h0 hF hν).frame hf9 (fun i hi hm => .inr (by omega)) (fun hm => by omega)
      have hF := hF.lateP hf9 (fun i hi hm => by omega)
      have hs := hy.frame hf9 (fun i hi hm => .inr hm)
      exact ⟨y, k, o, s, t, m, q, ql, qc, rfl, hs.anti fun _ _ h => .inl h, ⟨_, _, by omega, (h.re h0 hF hν).anti fun _ _ h => .inl h⟩, hF⟩
end Go.Proofs.Ytjlkgedcpmoehaa
