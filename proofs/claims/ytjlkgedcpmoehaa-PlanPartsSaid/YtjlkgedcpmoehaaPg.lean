/-
  Contracts: a parser begins; a text is read as an expression; Show. All of it given that expressions are read.
-/
import Derived.Test.YtjlkgedcpmoehaaPf
set_option linter.unusedVariables false
set_option linter.unusedSimpArgs false
set_option maxRecDepth 100000
namespace Go.Proofs.Ytjlkgedcpmoehaa
open Go Go.Vc
variable {w : World}

theorem begin_c (s : ByteArray) (w : World) : Calls Try.prog 29 #[.string s] w
    (Ret fun v w' => ∃ (K : PK) (a e : Int), v = .tuple #[.pointer (some K.p), .agg #[.slice K.L K.n K.c, .int .i64 a, .int .i64 e]] ∧ PS K (fun i => i = K.pb ∨ i < w.heap.size) w' 0 0 0 ∧ w.heap.size ≤ K.pb ∧ Fr (fun _ => False) w w') := by
  refine Sh.ref17_begin_calls _ ?_
  unfold Sh.ref17_begin
  intro b hb w1 hf1 hl1
  have hF1 := frOne hb hf1
  refine Calls.tell (tokens_c s w1) fun v w2 ⟨l, p, len, cap, a, e, hv, ht, hle, hf2⟩ => ?_
  subst hv
  have hF2 := hF1.same hf2
  have hz1 := hF1.size
  have hz2 := hf2.size
  refine ⟨p, len, cap, a, e, rfl, fun h => hf2.keep _ h fun h => h, ?_⟩
  intro bl hbl hne w3 hf3 hl3 hm3 w4 hw4
  have hF3 := hF2.late hf3 fun i hi h => by omega
  have ht3 := (ht.anti (ν := fun i => i < w1.heap.size ∨ w2.heap.size ≤ i) fun i hi h => by omega).frame hf3 fun i hi h => by omega
  have hbk : Blk w4 w3.heap.size [.slice p len cap, .int .i64 (0 : Int), .int .i64 (0 : Int), .int .i64 (0 : Int), .int .i64 (0 : Int), .int .i64 (s.size : Int)] 74 := by rw [hw4]; exact Blk.new w3 [.slice p len cap, .int .i64 (0 : Int), .int .i64 (0 : Int), .int .i64 (0 : Int), .int .i64 (0 : Int), .int .i64 (s.size : Int)] 74
  have hf4 : Fr (fun _ => False) w3 w4 := by rw [hw4]; exact alloc_still _ _
  have hz3 := hf3.size
  refine ⟨hf4.ext, fun w5 hf5 hl5 hm5 => ?_⟩
  have hF5 := (hF3.same hf4).late hf5 fun i hi h => by omega
  have ht5 := (ht3.frame hf4 fun _ _ h => h.elim).frame hf5 fun i hi h => by omega
  refine ⟨⟨w3.heap.size, l, p, len, cap⟩, a, e, rfl, ⟨⟨0, s.size, hbk.frame hf5 fun h => by omega⟩, ht5.anti fun i hi h => ?_, hle, by omega, by simp, by omega, by omega⟩, by show w.heap.size ≤ w3.heap.size; omega, hF5⟩
  simp only at h
  omega

def TOut (w : World) : Value → World → Prop := fun v w' => ∃ (y : Nd) (k o : Int) (s t : ByteArray) (m : Int) (q : Option Addr) (ql qc : Nat) (a e : Int), v = .agg #[.int .i64 k, .int .i64 o, .string s, .string t, .int .i64 m, .slice q ql qc, .int .i64 (0 : Int), .string (⟨#[]⟩ : ByteArray), .string (⟨#[]⟩ : ByteArray), .string (⟨#[]⟩ : ByteArray), .int .i64 (0 : Int), .int .i64 (0 : Int), .slice none 0 0, .bool false, .bool false, .slice none 0 0, .slice none 0 0, .slice none 0 0, .slice none 0 0, .pointer none, .pointer none, .slice none 0 0, .slice none 0 0, .int .i64 (0 : Int), .int .i64 (0 : Int), .int .i64 a, .int .i64 e] ∧
  NdV (fun i => i < w.heap.size) w' y k o s t m q ql qc ∧ Fr (fun _ => False) w w'

theorem tLeaf {w w' : World} (hF : Fr (fun _ => False) w w') (a e : Int) : TOut w (.agg #[.int .i64 (0 : Int), .int .i64 (0 : Int), .string (⟨#[]⟩ : ByteArray), .string (⟨#[]⟩ : ByteArray), .int .i64 (0 : Int), .slice none 0 0, .int .i64 (0 : Int), .string (⟨#[]⟩ : ByteArray), .string (⟨#[]⟩ : ByteArray), .string (⟨#[]⟩ : ByteArray), .int .i64 (0 : Int), .int .i64 (0 : Int), .slice none 0 0, .bool false, .bool false, .slice none 0 0, .slice none 0 0, .slice none 0 0, .slice none 0 0, .pointer none, .pointer none, .slice none 0 0, .slice none 0 0, .int .i64 (0 : Int), .int .i64 (0 : Int), .int .i64 a, .int .i64 e]) w' :=
  ⟨.mk 0 0 ⟨#[]⟩ ⟨#[]⟩ 0 [], 0, 0, ⟨#[]⟩, ⟨#[]⟩, 0, none, 0, 0, a, e, rfl, ⟨Nat.le_refl _, [], rfl, NdS.nil _ _ _⟩, hF⟩

theorem exprS_c (hAll : ∀ N, ExprC N) (s : ByteArray) (w : World) : Calls Try.prog 17 #[.string s] w (Ret (TOut w)) := by
  refine Sh.ref17_Expr_calls _ ?_
  unfold Sh.ref17_Expr
  intro b hb w1 hf1 hl1
  have hF1 := frOne hb hf1
  refine Calls.tell (begin_c s w1) fun v w2 ⟨K, a, e, hv, h2, hpb, hf2⟩ => ?_
  subst hv
  have hF2 := hF1.same hf2
  have hz1 := hF1.size
  have hz2 := hf2.size
  have hpl := h2.lt
  refine ⟨some K.p, K.L, K.n, K.c, a, e, rfl, fun h => hf2.keep _ h fun h => h, ?_⟩
  intro bl hbl hne
  refine ⟨fun _ => ?_, fun _ => ?_⟩
  · intro w3 hf3 _ _
    exact tLeaf (hF2.late hf3 fun i hi h => by omega) _ _
  intro w3 hf3 hbl3 hb3
  have hF3 := hF2.late hf3 fun i hi h => by omega
  have h3 := (h2.anti (μ := fun i => i = K.pb ∨ i < w1.heap.size ∨ w2.heap.size ≤ i) fun i hi h => by omega).frame hf3 (fun i hi h => .inr (by omega)) (fun h => by omega)
  have hz3 := hf3.size
  have hn := h3.len
  refine Calls.tell (hAll (K.n * 13 + 13) K (fun i => i = K.pb ∨ i < w1.heap.size ∨ i = bl) w3 0 0 0 1 (.inl rfl) (fun i hi => by omega) (h3.anti fun i hi h => by omega) (by omega) (by omega) (by push_cast; omega)) fun v w4 ⟨y, k, o, u, t, m, q, ql, qc, hv, hy, ⟨J, F, hJ, h4⟩, hf4⟩ => ?_
  subst hv
  have hF4 := hF3.late hf4 fun i hi h => by omega
  refine ⟨k, o, u, t, m, q, ql, qc, rfl, fun h => hf4.keep _ h fun h => by omega, fun h => hf4.keep _ h fun h => by omega, ?_⟩
  have hz4 := hf4.size
  intro bn hbn hn1 hn2 w5 hf5 hbn5 hbl5 hb5
  have hsub : ∀ i, i < w4.heap.size → (i = K.pb ∨ i < w1.heap.size ∨ i = bl ∨ w4.heap.size ≤ i) → (i = K.pb ∨ i < w1.heap.size ∨ i = bl) := fun i hi h => by omega
  have h5 := (h4.anti hsub).frame hf5 (fun i hi h => by omega) (fun h => by omega)
  have hy5 := (hy.anti hsub).frame hf5 (fun i hi h => by omega)
  have hF5 := hF4.late hf5 fun i hi h => by omega
  refine ⟨K.p, rfl, J, h5.cI, K.p, rfl, _, _, _, h5.cL, fun _ => ?_, fun _ => ?_⟩
  · refine Calls.tell (fail_c 10 (by omega) (.inl rfl) h5) fun v w6 ⟨hv, ⟨F6, _, h6⟩, hf6⟩ => ?_
    subst hv
    have hF6 := hF5.late hf6 fun i hi h => by omega
    have hy6 := hy5.frame hf6 fun i hi h => .inl h
    refine ⟨rfl, fun h => hf6.keep _ h fun h => by omega, fun h => hf6.keep _ h fun h => by omega, fun h => hf6.keep _ h fun h => by omega, K.p, rfl, F6, h6.cE, fun _ => ?_, fun _ => ?_⟩
    · intro w7 hf7 _ _ _
      have hz6 := hf6.size
      have hz5 := hf5.size
      have h7 := h6.frame hf7 (fun i hi h => by omega) (fun h => by omega)
      obtain ⟨ca, hca⟩ := h7.cA
      refine ⟨K.p, rfl, ca, hca, by rw [add_block]; show K.pb ≠ b; omega, K.p, rfl, F6, h7.cE, by rw [add_block]; show K.pb ≠ b; omega, ?_⟩
      intro w8 hf8 _ _ _
      exact tLeaf ((hF6.late hf7 fun i hi h => by omega).late hf8 fun i hi h => by omega) _ _
    · intro w7 hf7 _ _ _
      exact ⟨y, k, o, u, t, m, q, ql, qc, _, _, rfl, (hy6.frame hf7 fun i hi h => by omega).anti fun i hi h => by omega, hF6.late hf7 fun i hi h => by omega⟩
  · refine ⟨K.p, rfl, F, h5.cE, fun _ => ?_, fun _ => ?_⟩
    · intro w7 hf7 _ _ _
      have h7 := h5.frame hf7 (fun i hi h => by omega) (fun h => by omega)
      obtain ⟨ca, hca⟩ := h7.cA
      refine ⟨K.p, rfl, ca, hca, by rw [add_block]; show K.pb ≠ b; omega, K.p, rfl, F, h7.cE, by rw [add_block]; show K.pb ≠ b; omega, ?_⟩
      intro w8 hf8 _ _ _
      exact tLeaf ((hF5.late hf7 fun i hi h => by omega).late hf8 fun i hi h => by omega) _ _
    · intro w7 hf7 _ _ _
      exact ⟨y, k, o, u, t, m, q, ql, qc, _, _, rfl, (hy5.frame hf7 fun i hi h => by omega).anti fun i hi h => by omega, hF5.late hf7 fun i hi h => by omega⟩
end Go.Proofs.Ytjlkgedcpmoehaa
