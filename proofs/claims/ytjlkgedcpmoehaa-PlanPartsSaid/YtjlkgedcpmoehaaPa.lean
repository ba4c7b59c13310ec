/-
  Contracts of the parser: its state, and what takes single tokens.
-/
import Derived.Test.YtjlkgedcpmoehaaTd
import Derived.Test.YtjlkgedcpmoehaaShP
set_option linter.unusedVariables false
set_option linter.unusedSimpArgs false
set_option maxRecDepth 100000
namespace Go.Vc

def kindAt (toks : List Tok) (I : Int) : Int := match toks[I.toNat]? with | some t => t.k | none => 0

/-- A parser's tokens: the slice, and what it holds. -/
structure PK where
  pb : Nat
  toks : List Tok
  L : Option Addr
  n : Nat
  c : Nat

/-- A parser's state: the next token's place, the error, the depth. None of the tokens' blocks is in ν. -/
structure PS (K : PK) (ν : Nat → Prop) (w : World) (I E D : Int) : Prop where
  blk : ∃ a e : Int, Blk w K.pb [.slice K.L K.n K.c, .int .i64 I, .int .i64 E, .int .i64 a, .int .i64 D, .int .i64 e] 74
  tok : TokS ν w K.toks K.L K.n
  len : K.n ≤ 4000
  i0 : 0 ≤ I
  i1 : I ≤ (K.n : Int)
  d0 : 0 ≤ D
  d1 : D ≤ 24

abbrev PK.p (K : PK) : Addr := ⟨K.pb, 0, none⟩

variable {K : PK} {ν M : Nat → Prop} {w w' : World} {I E D : Int}

theorem PS.frame (h : PS K ν w I E D) (hf : Fr M w w') (hM : ∀ i, i < w.heap.size → M i → ν i) (hp : ¬ M K.pb) : PS K ν w' I E D := by
  obtain ⟨⟨a, e, h1⟩, h2, h3, h4, h5, h6, h7⟩ := h
  exact ⟨⟨a, e, h1.frame hf hp⟩, h2.frame hf hM, h3, h4, h5, h6, h7⟩
theorem PS.still (h : PS K ν w I E D) (hf : Fr (fun _ => False) w w') : PS K ν w' I E D := h.frame hf (fun _ _ h => h.elim) fun h => h
theorem PS.anti {μ : Nat → Prop} (h : PS K ν w I E D) (hm : ∀ i, i < w.heap.size → μ i → ν i) : PS K μ w I E D := by
  obtain ⟨h1, h2, h3, h4, h5, h6, h7⟩ := h
  exact ⟨h1, h2.anti hm, h3, h4, h5, h6, h7⟩
theorem PS.lt (h : PS K ν w I E D) : K.pb < w.heap.size := by
  obtain ⟨a, e, h1⟩ := h.blk
  exact h1.lt
theorem PS.cL (h : PS K ν w I E D) : w.cell? K.p = some (.slice K.L K.n K.c) := by
  obtain ⟨a, e, h1⟩ := h.blk
  exact h1.cell0
theorem PS.cI (h : PS K ν w I E D) : w.cell? (K.p.add 1) = some (.int .i64 I) := by
  obtain ⟨a, e, h1⟩ := h.blk
  exact h1.cell (i := 1) rfl
theorem PS.cE (h : PS K ν w I E D) : w.cell? (K.p.add 2) = some (.int .i64 E) := by
  obtain ⟨a, e, h1⟩ := h.blk
  exact h1.cell (i := 2) rfl
theorem PS.cA (h : PS K ν w I E D) : ∃ a : Int, w.cell? (K.p.add 3) = some (.int .i64 a) := by
  obtain ⟨a, e, h1⟩ := h.blk
  exact ⟨a, h1.cell (i := 3) rfl⟩
theorem PS.cD (h : PS K ν w I E D) : w.cell? (K.p.add 4) = some (.int .i64 D) := by
  obtain ⟨a, e, h1⟩ := h.blk
  exact h1.cell (i := 4) rfl
theorem PS.cEnd (h : PS K ν w I E D) : ∃ e : Int, w.cell? (K.p.add 5) = some (.int .i64 e) := by
  obtain ⟨a, e, h1⟩ := h.blk
  exact ⟨e, h1.cell (i := 5) rfl⟩
theorem PS.nofroz (h : PS K ν w I E D) (i : Nat) : w.frozen? (K.p.add i) = false := by
  obtain ⟨a, e, h1⟩ := h.blk
  exact h1.frozen i

theorem PS.setI (h : PS K ν w I E D) (hν : ν K.pb) {J : Int} (h0 : 0 ≤ J) (h1 : J ≤ (K.n : Int)) : PS K ν (w.setCell (K.p.add 1) (.int .i64 J)) J E D := by
  obtain ⟨⟨a, e, hb⟩, h2, h3, h4, h5, h6, h7⟩ := h
  exact ⟨⟨a, e, hb.set 1 _⟩, h2.frame (set_fr _ _ _ _) (fun i _ h => h ▸ hν), h3, h0, h1, h6, h7⟩
theorem PS.setE (h : PS K ν w I E D) (hν : ν K.pb) (F : Int) : PS K ν (w.setCell (K.p.add 2) (.int .i64 F)) I F D := by
  obtain ⟨⟨a, e, hb⟩, h2, h3, h4, h5, h6, h7⟩ := h
  exact ⟨⟨a, e, hb.set 2 _⟩, h2.frame (set_fr _ _ _ _) (fun i _ h => h ▸ hν), h3, h4, h5, h6, h7⟩
theorem PS.setA (h : PS K ν w I E D) (hν : ν K.pb) (F : Int) : PS K ν (w.setCell (K.p.add 3) (.int .i64 F)) I E D := by
  obtain ⟨⟨a, e, hb⟩, h2, h3, h4, h5, h6, h7⟩ := h
  exact ⟨⟨F, e, hb.set 3 _⟩, h2.frame (set_fr _ _ _ _) (fun i _ h => h ▸ hν), h3, h4, h5, h6, h7⟩
theorem PS.setD (h : PS K ν w I E D) (hν : ν K.pb) {F : Int} (h0 : 0 ≤ F) (h1 : F ≤ 24) : PS K ν (w.setCell (K.p.add 4) (.int .i64 F)) I E F := by
  obtain ⟨⟨a, e, hb⟩, h2, h3, h4, h5, h6, h7⟩ := h
  exact ⟨⟨a, e, hb.set 4 _⟩, h2.frame (set_fr _ _ _ _) (fun i _ h => h ▸ hν), h3, h4, h5, h0, h1⟩
theorem PS.set_fr (i : Nat) (v : Value) : Fr (fun k => k = K.pb) w (w.setCell (K.p.add i) v) := Vc.set_fr w K.pb i v

/-- The next token. -/
theorem PS.next (h : PS K ν w I E D) {J : Int} (h0 : 0 ≤ J) (h1 : J < (K.n : Int)) : ∃ (a : Addr) (t : Tok), K.L = some a ∧ K.toks[J.toNat]? = some t ∧ TokR w t (a.add (J.toNat * 4)) := by
  have hl := h.tok.1
  have hx : K.toks[J.toNat]? = some (K.toks[J.toNat]'(by omega)) := List.getElem?_eq_getElem (by omega)
  obtain ⟨a, h2, _, h3⟩ := h.tok.2 _ _ hx
  exact ⟨a, _, h2, hx, h3⟩
end Go.Vc

namespace Go.Proofs.Ytjlkgedcpmoehaa
open Go Go.Vc
variable {K : PK} {ν : Nat → Prop} {w : World} {I E D : Int}

theorem kind_c (h : PS K ν w I E D) : Calls Try.prog 52 #[.pointer (some K.p)] w (Ret fun v w' => v = .int .i64 (kindAt K.toks I) ∧ Fr (fun _ => False) w w') := by
  refine Sh.ref17_Parser_kind_calls _ ?_
  unfold Sh.ref17_Parser_kind
  intro w1 hf1
  have h := h.still hf1
  refine ⟨I, h.cI, _, _, _, h.cL, fun hlt => ?_, fun hge => ⟨?_, hf1⟩⟩
  · simp only [decide_eq_true_eq] at hlt
    intro w2 hf2
    have h := h.still hf2
    obtain ⟨a, t, ha, ht, hc⟩ := h.next h.i0 hlt
    exact ⟨_, _, _, h.cL, I, h.cI, a, ha, ⟨h.i0, hlt⟩, t.k, hc.1, by rw [kindAt, ht], hf1.same hf2⟩
  · simp only [decide_eq_false_iff_not] at hge
    have : K.toks[I.toNat]? = none := List.getElem?_eq_none (by rw [← h.tok.1]; have := h.i0; omega)
    rw [kindAt, this]

theorem kindAt_lt (h : PS K ν w I E D) (hk : kindAt K.toks I ≠ 0) : I < (K.n : Int) := by
  have h0 := h.i0
  have hl := h.tok.1
  rcases Int.lt_or_le I (K.n : Int) with h | h
  · exact h
  · have : K.toks[I.toNat]? = none := List.getElem?_eq_none (by omega)
    rw [kindAt, this] at hk
    exact absurd rfl hk

theorem is_c (s : ByteArray) (h : PS K ν w I E D) : Calls Try.prog 36 #[.pointer (some K.p), .string s] w (Ret fun v w' => ∃ r, v = .bool r ∧ (r = true → I < (K.n : Int)) ∧ Fr (fun _ => False) w w') := by
  refine Sh.ref17_Parser_is_calls _ _ ?_
  unfold Sh.ref17_Parser_is
  simp only [imp_self, true_and]
  refine Calls.tell (kind_c h) fun v w1 ⟨hv, hf1⟩ => ?_
  subst hv
  refine ⟨_, rfl, fun w2 hf2 => ?_⟩
  have hF := hf1.same hf2
  have h := h.still hF
  refine ⟨fun h => by rw [h]; rfl, fun hk => ?_, fun _ => ⟨_, rfl, fun h => (by cases h), hF⟩⟩
  have hlt : I < (K.n : Int) := kindAt_lt h fun h0 => by rw [h0] at hk; simp at hk
  obtain ⟨a, t, ha, ht, hc⟩ := h.next h.i0 hlt
  exact ⟨⟨hk, _, _, _, h.cL, hk, I, h.cI, a, ha, ⟨h.i0, hlt⟩, t.t, hc.2.1, hk, _, rfl, fun _ => hlt, hF⟩, ⟨hk, I, h.cI, hk, _, _, _, h.cL, a, ha, ⟨h.i0, hlt⟩, t.t, hc.2.1, hk, _, rfl, fun _ => hlt, hF⟩⟩

theorem fail_c (e : Int) (he : e ≠ 0) (hν : ν K.pb) (h : PS K ν w I E D) : Calls Try.prog 31 #[.pointer (some K.p), .int .i64 e] w (Ret fun v w' => v = .tuple #[] ∧ (∃ F, F ≠ 0 ∧ PS K ν w' I F D) ∧ Fr (fun i => i = K.pb) w w') := by
  refine Sh.ref17_Parser_fail_calls _ _ ?_
  unfold Sh.ref17_Parser_fail
  refine ⟨E, h.cE, fun hE => ⟨rfl, ⟨E, by simpa using hE, h⟩, Fr.refl _ _⟩, fun hE => ⟨by rw [h.cE]; rfl, h.nofroz 2, ?_⟩⟩
  have h1 := h.setE hν e
  obtain ⟨z, hz⟩ := h1.cEnd
  obtain ⟨y, hy⟩ := h1.cA
  refine ⟨z, hz, by rw [hy]; rfl, h1.nofroz 3, fun w1 hf1 => ?_⟩
  have hf0 : Fr (fun i => i = K.pb) w w1 := ((PS.set_fr 2 (.int .i64 e)).same (PS.set_fr 3 (.int .i64 z))).same hf1.ext
  have h2 := (h1.setA hν z).still hf1
  refine ⟨I, h2.cI, _, _, _, h2.cL, fun hlt => ?_, fun _ => ⟨rfl, ⟨e, he, h2⟩, hf0⟩⟩
  simp only [decide_eq_true_eq] at hlt
  intro w2 hf2
  have h3 := h2.still hf2
  obtain ⟨a, t, ha, ht, hc⟩ := h3.next h3.i0 hlt
  obtain ⟨y, hy⟩ := h3.cA
  have hfs : Fr (fun i => i = K.pb) w2 (w2.setCell (K.p.add 3) (.int .i64 t.at_)) := PS.set_fr 3 (.int .i64 t.at_)
  have hok : w2.cell? (K.p.add 3) ≠ none := by rw [hy]; simp
  exact ⟨fun i => i = K.pb, ⟨_, _, _, h3.cL, I, h3.cI, a, ha, ⟨h3.i0, hlt⟩, t.at_, hc.2.2.2, by rw [hy]; rfl, h3.nofroz 3, hfs.mono fun _ _ h => .inl h, rfl, ⟨e, he, h3.setA hν _⟩, (hf0.same hf2.ext).same hfs⟩,
    ⟨I, h3.cI, _, _, _, h3.cL, a, ha, ⟨h3.i0, hlt⟩, t.at_, hc.2.2.2, by rw [hy]; rfl, h3.nofroz 3, hfs.mono fun _ _ h => .inl h, rfl, ⟨e, he, h3.setA hν _⟩, (hf0.same hf2.ext).same hfs⟩⟩

theorem take_c (s : ByteArray) (hν : ν K.pb) (h : PS K ν w I E D) : Calls Try.prog 40 #[.pointer (some K.p), .string s] w
    (Ret fun v w' => ∃ r, v = .bool r ∧ (r = true → E = 0 ∧ I < (K.n : Int) ∧ PS K ν w' (I + 1) 0 D) ∧ (r = false → PS K ν w' I E D) ∧ Fr (fun i => i = K.pb) w w') := by
  refine Sh.ref17_Parser_take_calls _ _ ?_
  unfold Sh.ref17_Parser_take
  refine ⟨E, h.cE, fun hE => ⟨false, rfl, fun h => (by cases h), fun _ => h, Fr.refl _ _⟩, fun hE => ⟨by simpa using hE, by simpa using hE, ?_⟩⟩
  have hE0 : E = 0 := by simpa using hE
  refine Calls.tell (is_c s h) fun v w1 ⟨r, hv, hr, hf1⟩ => ?_
  subst hv
  have h1 := h.still hf1
  refine ⟨r, rfl, fun _ => ⟨false, rfl, fun h => (by cases h), fun _ => h1, hf1.ext⟩, fun hr2 => ?_⟩
  have hlt := hr (by simpa using hr2)
  have i0 := h.i0
  have hl := h.len
  refine ⟨I, h1.cI, ?_⟩
  rw [wrap_i64 (by omega) (by omega)]
  refine ⟨by rw [h1.cI]; rfl, h1.nofroz 1, true, rfl, fun _ => ⟨hE0, hlt, ?_⟩, fun h => (by cases h), hf1.ext.same (PS.set_fr 1 (.int .i64 (I + 1)))⟩
  have := h1.setI hν (J := I + 1) (by omega) (by omega)
  rwa [hE0] at this

theorem want_c (s : ByteArray) (hν : ν K.pb) (h : PS K ν w I E D) : Calls Try.prog 53 #[.pointer (some K.p), .string s] w
    (Ret fun v w' => v = .tuple #[] ∧ (∃ J F, I ≤ J ∧ PS K ν w' J F D) ∧ Fr (fun i => i = K.pb) w w') := by
  refine Sh.ref17_Parser_want_calls _ _ ?_
  unfold Sh.ref17_Parser_want
  refine Calls.tell (take_c s hν h) fun v w1 ⟨r, hv, hr, hr2, hf1⟩ => ?_
  subst hv
  refine ⟨r, rfl, fun hn => ?_, fun hn => ⟨rfl, ⟨I + 1, 0, by omega, (hr (by simpa using hn)).2.2⟩, hf1⟩⟩
  refine Calls.tell (fail_c 10 (by omega) hν (hr2 (by simpa using hn))) fun v w2 ⟨hv, ⟨F, _, hF⟩, hf2⟩ => ?_
  subst hv
  exact ⟨rfl, rfl, ⟨I, F, by omega, hF⟩, hf1.same hf2⟩

theorem name_c (hν : ν K.pb) (h : PS K ν w I E D) : Calls Try.prog 41 #[.pointer (some K.p)] w
    (Ret fun v w' => ∃ u : ByteArray, v = .string u ∧ (∃ J F, I ≤ J ∧ PS K ν w' J F D ∧ (E = 0 → kindAt K.toks I = 1 → J = I + 1 ∧ F = 0)) ∧ Fr (fun i => i = K.pb) w w') := by
  refine Sh.ref17_Parser_name_calls _ ?_
  unfold Sh.ref17_Parser_name
  refine ⟨E, h.cE, fun hE => ?_, fun hE => ⟨by simpa using hE, ?_⟩⟩
  · refine Calls.tell (fail_c 10 (by omega) hν h) fun v w2 ⟨hv, ⟨F, _, hF⟩, hf2⟩ => ?_
    subst hv
    exact ⟨rfl, _, rfl, ⟨I, F, by omega, hF, fun h0 => by simp [h0] at hE⟩, hf2⟩
  have hE0 : E = 0 := by simpa using hE
  refine Calls.tell (kind_c h) fun v w1 ⟨hv, hf1⟩ => ?_
  subst hv
  have h1 := h.still hf1
  refine ⟨_, rfl, fun hk => ?_, fun hk => ?_⟩
  · refine Calls.tell (fail_c 10 (by omega) hν h1) fun v w2 ⟨hv, ⟨F, _, hF⟩, hf2⟩ => ?_
    subst hv
    exact ⟨rfl, _, rfl, ⟨I, F, by omega, hF, fun _ h0 => by simp [h0] at hk⟩, hf1.ext.same hf2⟩
  have hk1 : kindAt K.toks I = 1 := by simpa using hk
  have hlt := kindAt_lt h (by omega)
  have i0 := h.i0
  have hl := h.len
  have hw1 : IntKind.i64.wrap (I + 1) = I + 1 := wrap_i64 (by omega) (by omega)
  have h2 := h1.setI hν (J := I + 1) (by omega) (by omega)
  refine ⟨I, h1.cI, ?_⟩
  rw [hw1]
  refine ⟨by rw [h1.cI]; rfl, h1.nofroz 1, fun w2 hf2 => ?_⟩
  have h3 := h2.still hf2
  have hw2 : IntKind.i64.wrap (I + 1 - 1) = I := by rw [wrap_i64 (by omega) (by omega)]; omega
  obtain ⟨a, t, ha, ht, hc⟩ := h3.next (J := I) (by omega) (by omega)
  refine ⟨_, _, _, h3.cL, I + 1, h3.cI, ?_⟩
  rw [hw2]
  refine ⟨a, ha, ?_⟩
  exact ⟨⟨i0, hlt⟩, t.t, hc.2.1, _, rfl, ⟨I + 1, E, by omega, h3, fun _ _ => ⟨rfl, hE0⟩⟩, (hf1.ext.same (PS.set_fr 1 (.int .i64 (I + 1)))).same hf2.ext⟩

theorem in_c (hν : ν K.pb) (h : PS K ν w I E D) : Calls Try.prog 37 #[.pointer (some K.p)] w
    (Ret fun v w' => ∃ r, v = .bool r ∧ (r = true → E = 0 ∧ D + 1 ≤ 24 ∧ PS K ν w' I E (D + 1)) ∧ (r = false → ∃ F, PS K ν w' I F D) ∧ Fr (fun i => i = K.pb) w w') := by
  refine Sh.ref17_Parser_in_calls _ ?_
  unfold Sh.ref17_Parser_in
  refine ⟨E, h.cE, fun hE => ⟨false, rfl, fun h => (by cases h), fun _ => ⟨E, h⟩, Fr.refl _ _⟩, fun hE => ⟨D, h.cD, fun hD => ?_, fun hD => ?_⟩⟩
  · refine Calls.tell (fail_c 21 (by omega) hν h) fun v w2 ⟨hv, ⟨F, _, hF⟩, hf2⟩ => ?_
    subst hv
    exact ⟨rfl, false, rfl, fun h => (by cases h), fun _ => ⟨F, hF⟩, hf2⟩
  · simp only [decide_eq_false_iff_not] at hD
    have d0 := h.d0
    refine ⟨D, h.cD, ?_⟩
    rw [wrap_i64 (by omega) (by omega)]
    exact ⟨by rw [h.cD]; rfl, h.nofroz 4, true, rfl, fun _ => ⟨by simpa using hE, by omega, h.setD hν (by omega) (by omega)⟩, fun h => (by cases h), PS.set_fr 4 (.int .i64 (D + 1))⟩

theorem typed_c (hν : ν K.pb) (h : PS K ν w I E D) : Calls Try.prog 56 #[.pointer (some K.p)] w
    (Ret fun v w' => ∃ i : Int, v = .int .i64 i ∧ (∃ J F, I ≤ J ∧ PS K ν w' J F D) ∧ Fr (fun i => i = K.pb) w w') := by
  refine Sh.ref17_Parser_typed_calls _ ?_
  unfold Sh.ref17_Parser_typed
  intro w1 hw1
  have hbk := Blk.new w [.string (⟨#[66, 79, 79, 76]⟩ : ByteArray), .string (⟨#[73, 78, 84]⟩ : ByteArray), .string (⟨#[84, 69, 88, 84]⟩ : ByteArray)] 9
  have hf1 : Fr (fun _ => False) w w1 := by rw [hw1]; exact Fr.newBlock _ _ _
  replace hbk : Blk w1 w.heap.size [.string (⟨#[66, 79, 79, 76]⟩ : ByteArray), .string (⟨#[73, 78, 84]⟩ : ByteArray), .string (⟨#[84, 69, 88, 84]⟩ : ByteArray)] 9 := by rw [hw1]; exact hbk
  have h1 := h.still hf1
  have hpl := h.lt
  refine ⟨fun i w' => 0 ≤ i ∧ i ≤ 3 ∧ PS K ν w' I E D ∧ Fr (fun i => i = K.pb) w1 w', fun i _ => 3 - i.toNat, ⟨by omega, by omega, h1, Fr.refl _ _⟩, ?_⟩
  rintro i w2 ⟨i0, i1, h2, hf2⟩
  refine ⟨fun hlt => ?_, fun _ => ?_⟩
  · simp only [decide_eq_true_eq] at hlt
    have hb2 := hbk.frame hf2 fun h => by omega
    have key : ∃ u : ByteArray, w2.cell? ((⟨w.heap.size, 0, none⟩ : Addr).add (i.toNat * 1)) = some (.string u) := by
      have h3 : i = 0 ∨ i = 1 ∨ i = 2 := by omega
      rcases h3 with rfl | rfl | rfl
      · exact ⟨_, hb2.cell (i := 0) rfl⟩
      · exact ⟨_, hb2.cell (i := 1) rfl⟩
      · exact ⟨_, hb2.cell (i := 2) rfl⟩
    obtain ⟨u, hu⟩ := key
    refine ⟨⟨i0, hlt⟩, u, hu, ?_⟩
    refine Calls.tell (take_c u hν h2) fun v w3 ⟨r, hv, hr, hr2, hf3⟩ => ?_
    subst hv
    refine ⟨r, rfl, fun hn => ⟨_, rfl, ⟨I + 1, 0, by omega, (hr hn).2.2⟩, (hf1.ext.same hf2).same hf3⟩, fun hn => ?_⟩
    rw [wrap_i64 (by omega) (by omega)]
    exact ⟨⟨by omega, by omega, hr2 hn, hf2.same hf3⟩, by dsimp only; omega⟩
  · refine Calls.tell (fail_c 10 (by omega) hν h2) fun v w3 ⟨hv, ⟨F, _, hF⟩, hf3⟩ => ?_
    subst hv
    exact ⟨rfl, 0, rfl, ⟨I, F, by omega, hF⟩, (hf1.ext.same hf2).same hf3⟩
end Go.Proofs.Ytjlkgedcpmoehaa
