/-
  Contracts of the parser: lists in parentheses.
-/
import Derived.Test.YtjlkgedcpmoehaaPb
set_option linter.unusedVariables false
set_option linter.unusedSimpArgs false
set_option maxRecDepth 100000
namespace Go.Vc
variable {K : PK} {ν μ M : Nat → Prop} {w w1 w' : World} {I E D J F D' : Int}

/-- The tokens are where they were at the start: no block that came later is theirs. -/
theorem PS.re (h : PS K μ w' J F D') (h0 : PS K ν w I E D) (hF : Fr (fun i => i = K.pb) w w') (hν : ν K.pb) : PS K (fun i => ν i ∨ w.heap.size ≤ i) w' J F D' := by
  obtain ⟨h1, h2, h3, h4, h5, h6, h7⟩ := h
  exact ⟨h1, (h0.tok.anti fun i hi h => h.elim id fun h => by omega).frame hF fun i _ h => .inl (h ▸ hν), h3, h4, h5, h6, h7⟩

theorem Fr.lateP {w w1 w2 : World} {p : Nat} (h : Fr (fun i => i = p) w w1) (h2 : Fr M w1 w2) (hM : ∀ i, i < w.heap.size → M i → False) : Fr (fun i => i = p) w w2 := h.trans h2 (fun _ _ h => h) fun i hi h => (hM i hi h).elim

def curI (K : PK) (w : World) : Nat := match w.cell? (K.p.add 1) with | some (.int _ i) => i.toNat | _ => 0
theorem PS.cur (h : PS K ν w I E D) : curI K w = I.toNat := by rw [curI, h.cI]

/-- What a reader of expressions gives: a node; the parser went on. -/
def EOut (K : PK) (ν : Nat → Prop) (I D : Int) (w : World) : Value → World → Prop := fun v w' =>
  ∃ (y : Nd) (k o : Int) (s t : ByteArray) (m : Int) (q : Option Addr) (ql qc : Nat), v = .agg #[.int .i64 k, .int .i64 o, .string s, .string t, .int .i64 m, .slice q ql qc] ∧ NdV ν w' y k o s t m q ql qc ∧ (∃ J F, I ≤ J ∧ PS K ν w' J F D) ∧ Fr (fun i => i = K.pb) w w'
end Go.Vc

namespace Go.Proofs.Ytjlkgedcpmoehaa
open Go Go.Vc

def ExprC (N : Nat) : Prop := ∀ (K : PK) (ν : Nat → Prop) (w : World) (I E D level : Int), ν K.pb → (∀ i, ν i → i < w.heap.size) → PS K ν w I E D → 1 ≤ level → level ≤ 11 → ((K.n : Int) - I) * 13 + (12 - level) ≤ (N : Int) →
  Calls Try.prog 30 #[.pointer (some K.p), .int .i64 level] w (Ret (EOut K ν I D w))

variable {K : PK} {ν : Nat → Prop} {w : World} {I E D : Int}

theorem list_of {N : Nat} (hX : ExprC N) (hν : ν K.pb) (hlt : ∀ i, ν i → i < w.heap.size) (h : PS K ν w I E D) (hN : ((K.n : Int) - I) * 13 ≤ (N : Int) + 2) : Calls Try.prog 54 #[.pointer (some K.p)] w
    (Ret fun v w' => ∃ (l : List Nd) (p : Option Addr) (len cap : Nat), v = .slice p len cap ∧ NdS ν w' l p len ∧ len ≤ cap ∧ (p = none → cap = 0) ∧ l.length ≤ 4002 ∧ (∃ J F, I ≤ J ∧ PS K ν w' J F D) ∧ Fr (fun i => i = K.pb) w w') := by
  refine Sh.ref17_Parser_list_calls _ ?_
  unfold Sh.ref17_Parser_list
  have hpl := h.lt
  have i0 := h.i0
  have i1 := h.i1
  have hn := h.len
  have d0 := h.d0
  refine ⟨E, h.cE, fun _ => ?_, fun hE => ⟨by simpa using hE, ?_⟩⟩
  · refine Calls.tell (fail_c 10 (by omega) hν h) fun v w2 ⟨hv, ⟨F, _, hF⟩, hf2⟩ => ?_
    subst hv
    exact ⟨rfl, [], none, 0, 0, rfl, NdS.nil _ _ _, Nat.le_refl _, fun _ => rfl, by simp, ⟨I, F, by omega, hF⟩, hf2⟩
  refine Calls.tell (is_c _ h) fun v w1 ⟨r, hv, hr, hf1⟩ => ?_
  subst hv
  have h1 := h.still hf1
  refine ⟨r, rfl, fun _ => ?_, fun hr2 => ?_⟩
  · refine Calls.tell (fail_c 10 (by omega) hν h1) fun v w2 ⟨hv, ⟨F, _, hF⟩, hf2⟩ => ?_
    subst hv
    exact ⟨rfl, [], none, 0, 0, rfl, NdS.nil _ _ _, Nat.le_refl _, fun _ => rfl, by simp, ⟨I, F, by omega, hF⟩, hf1.ext.same hf2⟩
  have hI := hr (by simpa using hr2)
  refine Calls.tell (in_c hν h1) fun v w2 ⟨r2, hv, hin, hout, hf2⟩ => ?_
  subst hv
  have hF2 := hf1.ext.same hf2
  refine ⟨r2, rfl, fun hn => ?_, fun hn => ?_⟩
  · obtain ⟨F, hF⟩ := hout (by simpa using hn)
    exact ⟨[], none, 0, 0, rfl, NdS.nil _ _ _, Nat.le_refl _, fun _ => rfl, by simp, ⟨I, F, by omega, hF⟩, hF2⟩
  obtain ⟨hE0, hd1, h2⟩ := hin (by simpa using hn)
  refine ⟨I, h2.cI, by rw [h2.cI]; rfl, h2.nofroz 1, ?_⟩
  rw [wrap_i64 (by omega) (by omega)]
  have h3 := h2.setI hν (J := I + 1) (by omega) (by omega)
  have hF3 := hF2.same (PS.set_fr (K := K) (w := w2) 1 (.int .i64 (I + 1)))
  have h3' := h3.re h hF3 hν
  refine ⟨fun out ol oc w' => ∃ (l : List Nd) (J F : Int), OwnS ν w' w.heap.size 24 l (.slice out ol oc) ∧ PS K (fun i => ν i ∨ w.heap.size ≤ i) w' J F (D + 1) ∧ I + 1 ≤ J ∧ (l.length : Int) ≤ J - I ∧ Fr (fun i => i = K.pb) w w', fun _ _ _ w' => K.n - curI K w',
    ⟨[], I + 1, E, OwnS.nil _ _ _ _, h3', by omega, by simp; omega, hF3⟩, ?_⟩
  rintro out ol oc w4 ⟨l, J, F, hO, h4, hJ, hl, hF4⟩
  have hoc : ol ≤ oc ∧ (out = none → oc = 0) := by
    obtain ⟨xs, ho, _⟩ := hO
    rcases ho.2 with ⟨h, h'⟩ | ⟨g, cap, cur, h, _, _, h', _⟩
    · cases h; exact ⟨Nat.le_refl _, fun _ => rfl⟩
    · cases h; exact ⟨h', fun h => by cases h⟩
  have j1 := h4.i1
  refine ⟨F, h4.cE, fun hF0 => ?_, fun _ => ?_⟩
  · have hown : ∀ i, (Value.slice out ol oc).ownBlock = some i → w.heap.size ≤ i ∧ i < w4.heap.size := fun i hi => hO.block hi
    have hz4 := hF4.size
    refine Calls.tell (hX K (fun i => ν i ∨ (Value.slice out ol oc).ownBlock = some i) w4 J F (D + 1) 1 (.inl hν) (fun i hi => hi.elim (fun h => Nat.lt_of_lt_of_le (hlt i h) hz4) fun h => (hown i h).2)
      (h4.anti fun i _ h => h.elim .inl fun h => .inr (hown i h).1) (by omega) (by omega) (by omega)) fun v w5 ⟨y, k, o, s, t, m, q, ql, qc, hv, hy, ⟨J5, F5, hJ5, h5⟩, hf5⟩ => ?_
    subst hv
    refine ⟨k, o, s, t, m, q, ql, qc, rfl, ?_⟩
    rintro w6 rfl
    have hf6' := alloc_still w5 (.cells #[.int .i64 k, .int .i64 o, .string s, .string t, .int .i64 m, .slice q ql qc] 24)
    have hf6 := Fr.newBlock (fun i => i = K.pb) w5 (.cells #[.int .i64 k, .int .i64 o, .string s, .string t, .int .i64 m, .slice q ql qc] 24)
    have hO5 := hO.frame (hf5.same hf6) fun i hi hm => ⟨hm ▸ hν, fun h => by have := (hown i h).1; omega⟩
    have hz5 := hf5.size
    have hy6 : NdS (fun i => ν i ∨ (Value.slice out ol oc).ownBlock = some i) (w5.alloc (.cells #[.int .i64 k, .int .i64 o, .string s, .string t, .int .i64 m, .slice q ql qc] 24)) [y] (some (⟨w5.heap.size, 0, none⟩ : Addr)) 1 :=
      (own_one (base := w5.heap.size) (Nat.le_refl _) hy).nds fun i hi => hi.elim (fun h => by have := hlt i h; omega) fun h => by have := (hown i h).2; omega
    have hle := hn
    have hlen := h4.len
    obtain ⟨v', w7, hr7, hO7, hf7⟩ := hO5.append T24 22 hy6 (fun h => by cases h) (by have := hf6.size; omega) (by simp; omega)
    obtain ⟨p7, c7, hv7⟩ := hO7.shape
    subst hv7
    refine ⟨p7, _, c7, w7, hr7, ?_⟩
    have hF7 : Fr (fun i => i = K.pb) w w7 := ((hF4.same hf5).same hf6).lateP hf7 fun i hi h => by have := (hown i h).1; omega
    have h7 : PS K (fun i => ν i ∨ w.heap.size ≤ i) w7 J5 F5 (D + 1) := ((h5.re h (hF4.same hf5) hν).still hf6').frame hf7 (fun i _ h => .inr (hown i h).1) fun h => by have := (hown _ h).1; omega
    have hlt7 : ∀ i, i < w.heap.size → (Value.slice p7 (l ++ [y]).length c7).ownBlock = some i → False := fun i hi h => by have := (hO7.block h).1; omega
    refine Calls.tell (take_c _ (.inl hν) h7) fun v w8 ⟨r8, hv, hr8, hr8', hf8⟩ => ?_
    subst hv
    have hF8 := hF7.same hf8
    have hO8 := hO7.frame hf8 fun i hi hm => ⟨hm ▸ hν, fun h => hlt7 i (by omega) h⟩
    have hc7 : (l ++ [y]).length ≤ c7 ∧ (p7 = none → c7 = 0) := by
      obtain ⟨xs, ho, _⟩ := hO7
      rcases ho.2 with ⟨h, h'⟩ | ⟨g, cap, cur, h, _, _, h', _⟩
      · simp at h'
      · cases h; exact ⟨h', fun h => by cases h⟩
    refine ⟨r8, rfl, fun hn => ?_, fun hn => ?_⟩
    · have h8 := hr8' (by simpa using hn)
      refine Calls.tell (want_c _ (.inl hν) h8) fun v w9 ⟨hv, ⟨J9, F9, hJ9, h9⟩, hf9⟩ => ?_
      subst hv
      refine ⟨rfl, D + 1, h9.cD, by rw [h9.cD]; rfl, h9.nofroz 4, ?_⟩
      rw [wrap_i64 (by omega) (by omega), show D + 1 - 1 = D from by omega]
      have hz8 := hF8.size
      have hO9 := hO8.frame (hf9.same (PS.set_fr (K := K) (w := w9) 4 (.int .i64 D))) fun i hi hm => ⟨hm ▸ hν, fun h => hlt7 i (by omega) h⟩
      refine ⟨l ++ [y], p7, _, c7, rfl, hO9.nds hlt, hc7.1, hc7.2, by simp; omega, ⟨J9, F9, by omega, ((h9.setD (.inl hν) d0 (by omega)).anti fun _ _ h => .inl h)⟩, (hF8.same hf9).same (PS.set_fr 4 (.int .i64 D))⟩
    · obtain ⟨_, hJ8, h8⟩ := hr8 (by simpa using hn)
      refine ⟨⟨l ++ [y], J5 + 1, 0, hO8, h8, by omega, by simp; omega, hF8⟩, ?_⟩
      dsimp only
      rw [h8.cur, h4.cur]
      have := h5.i0
      have := h4.i0
      omega
  · refine Calls.tell (want_c _ (.inl hν) h4) fun v w5 ⟨hv, ⟨J5, F5, hJ5, h5⟩, hf5⟩ => ?_
    subst hv
    refine ⟨rfl, D + 1, h5.cD, by rw [h5.cD]; rfl, h5.nofroz 4, ?_⟩
    rw [wrap_i64 (by omega) (by omega), show D + 1 - 1 = D from by omega]
    have hO5 := hO.frame (hf5.same (PS.set_fr (K := K) (w := w5) 4 (.int .i64 D))) fun i hi hm => ⟨hm ▸ hν, fun h => by have := (hO.block h).1; omega⟩
    have hlen := h4.len
    refine ⟨l, out, ol, oc, rfl, hO5.nds hlt, hoc.1, hoc.2, by omega, ⟨J5, F5, by omega, ((h5.setD (.inl hν) d0 (by omega)).anti fun _ _ h => .inl h)⟩, (hF4.same hf5).same (PS.set_fr 4 (.int .i64 D))⟩
end Go.Proofs.Ytjlkgedcpmoehaa
