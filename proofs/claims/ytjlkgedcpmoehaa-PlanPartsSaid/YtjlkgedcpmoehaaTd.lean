/-
  Contract: Tokens.
-/
import Derived.Test.YtjlkgedcpmoehaaTc
set_option linter.unusedVariables false
set_option linter.unusedSimpArgs false
set_option maxRecDepth 100000
namespace Go.Vc

def tokCells : List Tok → List Value
  | [] => []
  | x :: l => [.int .i64 x.k, .string x.t, .int .i64 x.n, .int .i64 x.at_] ++ tokCells l

theorem tokCells_len : ∀ l : List Tok, (tokCells l).length = l.length * 4
  | [] => rfl
  | x :: l => by rw [tokCells, List.length_append, tokCells_len l]; simp; omega
theorem tokCells_append : ∀ l m : List Tok, tokCells (l ++ m) = tokCells l ++ tokCells m
  | [], m => rfl
  | x :: l, m => by simp [tokCells, tokCells_append l m]
theorem tokCells_one : ∀ (l : List Tok), ∀ u ∈ tokCells l, u.oneCell' = true
  | [], u, h => by cases h
  | x :: l, u, h => by
    rw [tokCells, List.mem_append] at h
    rcases h with h | h
    · simp only [List.mem_cons, List.not_mem_nil, or_false] at h
      rcases h with rfl | rfl | rfl | rfl <;> rfl
    · exact tokCells_one l u h
theorem tokCells_get : ∀ (l : List Tok) (j : Nat) (x : Tok), l[j]? = some x → (tokCells l)[j * 4]? = some (.int .i64 x.k) ∧ (tokCells l)[j * 4 + 1]? = some (.string x.t) ∧ (tokCells l)[j * 4 + 2]? = some (.int .i64 x.n) ∧ (tokCells l)[j * 4 + 3]? = some (.int .i64 x.at_)
  | y :: l, 0, x, h => by cases h; exact ⟨rfl, rfl, rfl, rfl⟩
  | y :: l, j + 1, x, h => by
    have := tokCells_get l j x (by simpa using h)
    have e : ∀ i, (tokCells (y :: l))[(j + 1) * 4 + i]? = (tokCells l)[j * 4 + i]? := fun i => by
      rw [tokCells, List.getElem?_append_right (by simp; omega)]
      congr 1
      simp
      omega
    exact ⟨(e 0).trans this.1, (e 1).trans this.2.1, (e 2).trans this.2.2.1, (e 3).trans this.2.2.2⟩

theorem TokS.nil (μ : Nat → Prop) (w : World) : TokS μ w [] none 0 := ⟨rfl, fun j x h => by simp at h⟩

structure TokTy (P : Program) (t e : TypeId) where
  i : TypeInfo
  z : Value
  ht : P.underlying t = some (.slice e)
  hi : P.info? e = some i
  hz : i.zero = some z
  size : i.size = 4
  bytes : i.bytes = 40
  zs : z.cells.size = 4

/-- What the reader of tokens keeps: world, hidden block, place, what was read. -/
structure TInv (w : World) (e : TypeId) (b : Nat) (k : Int) (v : Value) (w' : World) : Prop where
  fr : Fr (fun _ => False) w w'
  lt : b < w'.heap.size
  row : ∃ (base : Nat) (l : List Tok), b < base ∧ w.heap.size ≤ base ∧ base ≤ w'.heap.size ∧ w'.ownsRow base e 4 v l.length (tokCells l) ∧ (l.length : Int) ≤ k

theorem TInv.frame {w w1 w2 : World} {e : TypeId} {b : Nat} {k : Int} {v : Value} (h : TInv w e b k v w1) (hf : Fr (fun _ => False) w1 w2) : TInv w e b k v w2 := by
  obtain ⟨h1, h2, base, l, h3, h4, h5, h6, h7⟩ := h
  have := hf.size
  exact ⟨h1.same hf, by omega, base, l, h3, h4, by omega, h6.kept (row := none) (grownBy_of_Fr hf fun _ _ h => h.elim) (by cases hv : v.ownBlock <;> simp), h7⟩

theorem TInv.mono {w w1 : World} {e : TypeId} {b : Nat} {k k' : Int} {v : Value} (h : TInv w e b k v w1) (hk : k ≤ k') : TInv w e b k' v w1 := by
  obtain ⟨h1, h2, base, l, h3, h4, h5, h6, h7⟩ := h
  exact ⟨h1, h2, base, l, h3, h4, h5, h6, by omega⟩

theorem TInv.app {P : Program} {t e : TypeId} (T : TokTy P t e) {w w1 : World} {b : Nat} {k k' : Int} {p : Option Addr} {len cap : Nat} (h : TInv w e b k (.slice p len cap) w1) (hk : k < k' ∧ k' ≤ 1000000) {ak an aa : Int} {ax : ByteArray} (w2 : World)
    (hw : w2 = w1.alloc (.cells #[.int .i64 ak, .string ax, .int .i64 an, .int .i64 aa] e)) :
    ∃ (p' : Option Addr) (len' cap' : Nat) (w3 : World), (Builtin.append_ #[t, t] t #[.slice p len cap, .slice (some (⟨w1.heap.size, 0, none⟩ : Addr)) 1 1]).run P w2 = .ok (.slice p' len' cap') w3 ∧
      (b < w2.heap.size → w3.heap[b]? = w2.heap[b]?) ∧ TInv w e b k' (.slice p' len' cap') w3 := by
  obtain ⟨h1, h2, base, l, h3, h4, h5, h6, h7⟩ := h
  have hf : Fr (fun _ => False) w1 w2 := by rw [hw]; exact Fr.newBlock _ _ _
  have hsz := hf.size
  have hbk : Blk w2 w1.heap.size (tokCells [⟨ak, ax, an, aa⟩]) e := by rw [hw]; exact Blk.new w1 (tokCells [⟨ak, ax, an, aa⟩]) e
  have ho2 := h6.kept (row := none) (grownBy_of_Fr hf fun _ _ h => h.elim) (by cases hv : (Value.slice p len cap).ownBlock <;> simp)
  obtain ⟨v', w3, hr, ho, hg, _⟩ := run_append_own (P := P) w2 base t t e T.i T.z 4 40 T.ht T.hi T.hz T.size T.bytes T.zs (by omega) _ l.length _ ho2 ⟨w1.heap.size, 0, none⟩ 1 1 (tokCells [⟨ak, ax, an, aa⟩]) rfl (fun j u hu => hbk.cell hu) (tokCells_one _) (by simp only [maxLen]; omega) (by omega) (by omega)
  have hown : ∀ i, (Value.slice p len cap).ownBlock = some i → base ≤ i := fun i hi => (h6.lt i hi).1
  have hfr := Fr_of_grownBy hg
  have hf3 := hfr.size
  have hv : ∃ p' len' cap', v' = .slice p' len' cap' := by
    rcases ho.2 with ⟨h, _⟩ | ⟨g, cap, cur, h, _⟩
    · exact ⟨_, _, _, h⟩
    · exact ⟨_, _, _, h⟩
  obtain ⟨p', len', cap', rfl⟩ := hv
  refine ⟨p', len', cap', w3, hr, fun hlt => hfr.keep _ hlt fun h => by have := hown _ h; omega, ?_, by omega, base, l ++ [⟨ak, ax, an, aa⟩], h3, h4, by omega, ?_, by simp; omega⟩
  · exact (h1.same hf).trans hfr (fun _ _ h => h) fun i hi h => by have := hown _ h; omega
  · rw [List.length_append, tokCells_append]; exact ho

theorem TInv.toks {w w1 : World} {e : TypeId} {b : Nat} {k : Int} {p : Option Addr} {len cap : Nat} (h : TInv w e b k (.slice p len cap) w1) : ∃ l, TokS (fun i => i < w.heap.size) w1 l p len ∧ (len : Int) ≤ k := by
  obtain ⟨h1, h2, base, l, h3, h4, h5, h6, h7⟩ := h
  refine ⟨l, ⟨?_, fun j x hx => ?_⟩, ?_⟩
  · rcases h6.2 with ⟨h, h'⟩ | ⟨g, cap, cur, h, _⟩ <;> (cases h; omega)
  · rcases h6.2 with ⟨h, h'⟩ | ⟨g, cap, cur, h, hbg, _⟩
    · cases h
      have := List.length_eq_zero_iff.1 h'
      subst this
      simp at hx
    · cases h
      obtain ⟨c0, c1, c2, c3⟩ := tokCells_get l j x hx
      have hc := h6.cells (g := g) rfl
      refine ⟨⟨g, 0, none⟩, rfl, fun h => by simp at h; omega, hc _ _ c0, ?_, ?_, ?_⟩
      · rw [add_add]; exact hc _ _ c1
      · rw [add_add]; exact hc _ _ c2
      · rw [add_add]; exact hc _ _ c3
  · rcases h6.2 with ⟨h, h'⟩ | ⟨g, cap, cur, h, _⟩ <;> (cases h; omega)
end Go.Vc

namespace Go.Proofs.Ytjlkgedcpmoehaa
open Go Go.Vc

noncomputable def T86 : TokTy Try.prog 67 86 :=
  { i := Try.t86, z := (Try.t86.zero).getD default, ht := by kernel_rfl, hi := by kernel_rfl, hz := by kernel_rfl, size := by kernel_rfl, bytes := by kernel_rfl, zs := by kernel_rfl }

def TokOut (w : World) : Value → World → Prop := fun v w' => ∃ (l : List Tok) (p : Option Addr) (len cap : Nat) (a e : Int), v = .agg #[.slice p len cap, .int .i64 a, .int .i64 e] ∧ TokS (fun i => i < w.heap.size) w' l p len ∧ len ≤ 4000 ∧ Fr (fun _ => False) w w'

theorem tokens_c (s : ByteArray) (w : World) : Calls Try.prog 35 #[.string s] w (Ret (TokOut w)) := by
  refine Sh.ref17_Tokens_calls _ ?_
  unfold Sh.ref17_Tokens
  simp only [imp_self, true_and]
  intro b hb
  refine ⟨fun _ w1 hf1 _ => ⟨[], none, 0, 0, _, _, rfl, TokS.nil _ _, by omega, frOne hb hf1⟩, fun hs => ?_⟩
  have hs : s.size ≤ 4000 := by simp at hs; omega
  refine ⟨fun i out ol oc _ _ _ _ _ w' => 0 ≤ i ∧ i ≤ (s.size : Int) ∧ TInv w 86 b i (.slice out ol oc) w', fun i _ _ _ _ _ _ _ _ _ => s.size - i.toNat, fun w1 hf1 hlt => ⟨by omega, by omega, ⟨frOne hb hf1, hlt, w1.heap.size, [], hlt, (frOne hb hf1).size, Nat.le_refl _, World.ownsRow_nil _ _ _ _, by simp⟩⟩, ?_⟩
  rintro i out ol oc tL tl tc tA tE w1 ⟨i0, i1, hI⟩
  refine ⟨fun hlt => ?_, fun hge w2 hf2 _ => ?_⟩
  · simp only [decide_eq_true_eq] at hlt
    have hc := getElem?_pos s i.toNat (by omega)
    generalize hcc : s[i.toNat]'(by omega) = c at hc
    refine ⟨c, ⟨i0, hc⟩, fun h => by simpa using h, fun h => by rw [h]; rfl, fun h => by rw [h]; rfl, fun _ => ?_, fun _ => ?_⟩
    · rw [wrap_i64 (x := i + 1) (by omega) (by omega)]
      exact ⟨⟨by omega, by omega, hI.mono (by omega)⟩, by dsimp only; omega⟩
    rw [wrap_i64 (x := i + 1) (by omega) (by omega)]
    have cAt : ∀ k : Int, 0 ≤ k → ∃ c1 : UInt8, (k < (s.size : Int) → s[k.toNat]? = some c1) := by
      intro k hk
      by_cases h : k < (s.size : Int)
      · exact ⟨_, fun _ => getElem?_pos s k.toNat (by omega)⟩
      · exact ⟨0, fun h' => absurd h' h⟩
    obtain ⟨c1, hc1⟩ := cAt (i + 1) (by omega)
    refine ⟨c1, fun h => ⟨by omega, hc1 (by simp at h; omega)⟩, fun h45 => ?_, fun _ => ?_⟩
    · simp only [Bool.and_eq_true, beq_iff_eq] at h45
      refine ⟨fun k w' => i ≤ k ∧ k ≤ (s.size : Int) ∧ w' = w1, fun k _ => s.size - k.toNat, ⟨by omega, by omega, rfl⟩, ?_⟩
      rintro k w2 ⟨k0, k1, rfl⟩
      obtain ⟨c2, hc2⟩ := cAt k (by omega)
      refine ⟨c2, fun h => ⟨by omega, hc2 (by simpa using h)⟩, fun h => ?_, fun h => ?_⟩
      · simp at h
        rw [wrap_i64 (x := k + 1) (by omega) (by omega)]
        exact ⟨⟨by omega, by omega, rfl⟩, by dsimp only; omega⟩
      · have hik : i ≠ k := by
          rintro rfl
          rw [hc2 hlt] at hc
          cases hc
          simp at h
          have := h hlt
          omega
        exact ⟨⟨by omega, k1, hI.mono (by omega)⟩, by dsimp only; omega⟩
    · refine ⟨fun k out ol oc _ _ _ _ _ w' => i < k ∧ k ≤ (s.size : Int) ∧ TInv w 86 b k (.slice out ol oc) w', ?_, ?_⟩
      · refine Calls.tell (digit_c _ _) fun v w2 ⟨hv2, hw2⟩ => ?_
        subst hv2 hw2
        refine ⟨_, rfl, fun _ => rfl, fun hd => ?_, fun hd => ?_⟩
        · refine ⟨fun k w' => i ≤ k ∧ k ≤ (s.size : Int) ∧ w' = w2, fun k _ => s.size - k.toNat, ⟨by omega, by omega, rfl⟩, ?_⟩
          rintro k w3 ⟨k0, k1, rfl⟩
          obtain ⟨c3, hc3⟩ := cAt k (by omega)
          refine ⟨c3, fun h => ⟨by omega, hc3 (by simpa using h)⟩, fun h => ⟨h, ?_⟩, fun h => ?_⟩
          · have hk : k < (s.size : Int) := by simpa using h
            refine Calls.tell (digit_c _ _) fun v w4 ⟨hv4, hw4⟩ => ?_
            subst hv4 hw4
            refine ⟨_, rfl, fun _ => rfl, fun _ => ?_, fun hd2 => ?_⟩
            · rw [wrap_i64 (x := k + 1) (by omega) (by omega)]
              exact ⟨⟨by omega, by omega, rfl⟩, by dsimp only; omega⟩
            · have hik : i ≠ k := by
                rintro rfl
                rw [hc3 hlt] at hc
                cases hc
                rw [hd] at hd2
                cases hd2
              refine ⟨⟨by omega, by omega, by omega⟩, ?_⟩
              refine Calls.tell (parse_c _ (by rw [ByteArray.size_extract]; omega) _) fun v w5 ⟨m5, e5, hv5, hf5⟩ => ?_
              subst hv5
              have hI := hI.frame hf5
              refine ⟨m5, e5, rfl, fun h => hf5.keep _ h fun h => h, fun _ => ?_, fun _ => ?_⟩
              · intro w9 hf9 _
                exact ⟨[], none, 0, 0, _, _, rfl, TokS.nil _ _, by omega, hI.fr.late hf9 fun i hi h => by omega⟩
              · obtain ⟨c4, hc4⟩ := cAt k (by omega)
                refine ⟨c4, fun h => ⟨by omega, hc4 (by simpa using h)⟩, fun h => ⟨h, ?_⟩, fun _ => ?_⟩
                · refine Calls.tell (letter_c _ _) fun v w6 ⟨hv6, hw6⟩ => ?_
                  subst hv6 hw6
                  refine ⟨_, rfl, fun _ => rfl, fun _ => ?_, fun _ => ?_⟩
                  · intro w9 hf9 _
                    exact ⟨[], none, 0, 0, _, _, rfl, TokS.nil _ _, by omega, hI.fr.late hf9 fun i hi h => by omega⟩
                  · intro w7 hw7
                    obtain ⟨p7, n7, c7, w8, hr7, hb7, hI7⟩ := hI.app T86 (k' := k) ⟨by omega, by omega⟩ _ hw7
                    exact ⟨p7, n7, c7, w8, hr7, hb7, by omega, by omega, hI7⟩
                · intro w7 hw7
                  obtain ⟨p7, n7, c7, w8, hr7, hb7, hI7⟩ := hI.app T86 (k' := k) ⟨by omega, by omega⟩ _ hw7
                  exact ⟨p7, n7, c7, w8, hr7, hb7, by omega, by omega, hI7⟩
          · have hk : ¬ k < (s.size : Int) := by simpa using h
            refine ⟨⟨by omega, by omega, by omega⟩, ?_⟩
            refine Calls.tell (parse_c _ (by rw [ByteArray.size_extract]; omega) _) fun v w5 ⟨m5, e5, hv5, hf5⟩ => ?_
            subst hv5
            have hI := hI.frame hf5
            refine ⟨m5, e5, rfl, fun h => hf5.keep _ h fun h => h, fun _ => ?_, fun _ => ?_⟩
            · intro w9 hf9 _
              exact ⟨[], none, 0, 0, _, _, rfl, TokS.nil _ _, by omega, hI.fr.late hf9 fun i hi h => by omega⟩
            · obtain ⟨c4, hc4⟩ := cAt k (by omega)
              refine ⟨c4, fun h => ⟨by omega, hc4 (by simpa using h)⟩, fun h => ⟨h, ?_⟩, fun _ => ?_⟩
              · refine Calls.tell (letter_c _ _) fun v w6 ⟨hv6, hw6⟩ => ?_
                subst hv6 hw6
                refine ⟨_, rfl, fun _ => rfl, fun _ => ?_, fun _ => ?_⟩
                · intro w9 hf9 _
                  exact ⟨[], none, 0, 0, _, _, rfl, TokS.nil _ _, by omega, hI.fr.late hf9 fun i hi h => by omega⟩
                · intro w7 hw7
                  obtain ⟨p7, n7, c7, w8, hr7, hb7, hI7⟩ := hI.app T86 (k' := k) ⟨by omega, by omega⟩ _ hw7
                  exact ⟨p7, n7, c7, w8, hr7, hb7, by omega, by omega, hI7⟩
              · intro w7 hw7
                obtain ⟨p7, n7, c7, w8, hr7, hb7, hI7⟩ := hI.app T86 (k' := k) ⟨by omega, by omega⟩ _ hw7
                exact ⟨p7, n7, c7, w8, hr7, hb7, by omega, by omega, hI7⟩
        · refine Calls.tell (letter_c _ _) fun v w3 ⟨hv3, hw3⟩ => ?_
          subst hv3 hw3
          refine ⟨_, rfl, fun _ => rfl, fun hd => ?_, fun hd => ⟨fun h39 => ?_, fun h39 => ⟨⟨by omega, by omega⟩, ?_⟩⟩⟩
          · refine ⟨fun k w' => i ≤ k ∧ k ≤ (s.size : Int) ∧ w' = w3, fun k _ => s.size - k.toNat, ⟨by omega, by omega, rfl⟩, ?_⟩
            rintro k w4 ⟨k0, k1, rfl⟩
            obtain ⟨c3, hc3⟩ := cAt k (by omega)
            refine ⟨c3, fun h => ⟨by omega, hc3 (by simpa using h)⟩, fun h => ⟨h, ?_⟩, fun h => ?_⟩
            · have hk : k < (s.size : Int) := by simpa using h
              refine Calls.tell (letter_c _ _) fun v w5 ⟨hv5, hw5⟩ => ?_
              subst hv5 hw5
              refine ⟨_, rfl, fun _ => rfl, fun _ => ?_, fun hd2 => ?_⟩
              · rw [wrap_i64 (x := k + 1) (by omega) (by omega)]
                exact ⟨⟨by omega, by omega, rfl⟩, by dsimp only; omega⟩
              · have hik : i ≠ k := by
                  rintro rfl
                  rw [hc3 hlt] at hc
                  cases hc
                  rw [hd] at hd2
                  cases hd2
                refine ⟨fun _ => ?_, fun _ => ⟨⟨by omega, by omega, by omega⟩, ?_⟩⟩
                · intro w9 hf9 _
                  exact ⟨[], none, 0, 0, _, _, rfl, TokS.nil _ _, by omega, hI.fr.late hf9 fun i hi h => by omega⟩
                · refine Calls.tell (upper_c _ (by rw [ByteArray.size_extract]; omega) _) fun v w5 ⟨u5, hv5, hf5⟩ => ?_
                  subst hv5
                  have hI := hI.frame hf5
                  refine ⟨u5, rfl, fun h => hf5.keep _ h fun h => h, ?_⟩
                  refine Calls.tell (isWord_c _ _) fun v w6 ⟨r6, hv6, hf6⟩ => ?_
                  subst hv6
                  have hI := hI.frame hf6
                  refine ⟨r6, rfl, fun h => hf6.keep _ h fun h => h, fun _ => ?_, fun _ => ⟨⟨by omega, by omega, by omega⟩, ?_⟩⟩
                  · intro w7 hw7
                    obtain ⟨p7, n7, c7, w8, hr7, hb7, hI7⟩ := hI.app T86 (k' := k) ⟨by omega, by omega⟩ _ hw7
                    exact ⟨p7, n7, c7, w8, hr7, hb7, by omega, by omega, hI7⟩
                  · refine Calls.tell (lower_c _ (by rw [ByteArray.size_extract]; omega) _) fun v w5 ⟨u5, hv5, hf5⟩ => ?_
                    subst hv5
                    have hI := hI.frame hf5
                    refine ⟨u5, rfl, fun h => hf5.keep _ h fun h => h, ?_⟩
                    intro w7 hw7
                    obtain ⟨p7, n7, c7, w8, hr7, hb7, hI7⟩ := hI.app T86 (k' := k) ⟨by omega, by omega⟩ _ hw7
                    exact ⟨p7, n7, c7, w8, hr7, hb7, by omega, by omega, hI7⟩
            · have hk : ¬ k < (s.size : Int) := by simpa using h
              refine ⟨fun _ => ?_, fun _ => ⟨⟨by omega, by omega, by omega⟩, ?_⟩⟩
              · intro w9 hf9 _
                exact ⟨[], none, 0, 0, _, _, rfl, TokS.nil _ _, by omega, hI.fr.late hf9 fun i hi h => by omega⟩
              · refine Calls.tell (upper_c _ (by rw [ByteArray.size_extract]; omega) _) fun v w5 ⟨u5, hv5, hf5⟩ => ?_
                subst hv5
                have hI := hI.frame hf5
                refine ⟨u5, rfl, fun h => hf5.keep _ h fun h => h, ?_⟩
                refine Calls.tell (isWord_c _ _) fun v w6 ⟨r6, hv6, hf6⟩ => ?_
                subst hv6
                have hI := hI.frame hf6
                refine ⟨r6, rfl, fun h => hf6.keep _ h fun h => h, fun _ => ?_, fun _ => ⟨⟨by omega, by omega, by omega⟩, ?_⟩⟩
                · intro w7 hw7
                  obtain ⟨p7, n7, c7, w8, hr7, hb7, hI7⟩ := hI.app T86 (k' := k) ⟨by omega, by omega⟩ _ hw7
                  exact ⟨p7, n7, c7, w8, hr7, hb7, by omega, by omega, hI7⟩
                · refine Calls.tell (lower_c _ (by rw [ByteArray.size_extract]; omega) _) fun v w5 ⟨u5, hv5, hf5⟩ => ?_
                  subst hv5
                  have hI := hI.frame hf5
                  refine ⟨u5, rfl, fun h => hf5.keep _ h fun h => h, ?_⟩
                  intro w7 hw7
                  obtain ⟨p7, n7, c7, w8, hr7, hb7, hI7⟩ := hI.app T86 (k' := k) ⟨by omega, by omega⟩ _ hw7
                  exact ⟨p7, n7, c7, w8, hr7, hb7, by omega, by omega, hI7⟩
          · refine Calls.tell (text_c s (by omega) i i0 hlt _) fun v w4 ⟨u4, e4, r4, hv4, h4, hf4⟩ => ?_
            subst hv4
            have hI := hI.frame hf4
            refine ⟨u4, e4, r4, rfl, fun h => hf4.keep _ h fun h => h, fun _ => ?_, fun hr => ?_⟩
            · intro w9 hf9 _
              exact ⟨[], none, 0, 0, _, _, rfl, TokS.nil _ _, by omega, hI.fr.late hf9 fun i hi h => by omega⟩
            · have h4' := h4 (by simpa using hr)
              intro w7 hw7
              obtain ⟨p7, n7, c7, w8, hr7, hb7, hI7⟩ := hI.app T86 (k' := e4) ⟨by omega, by omega⟩ _ hw7
              exact ⟨p7, n7, c7, w8, hr7, hb7, by omega, by omega, hI7⟩
          · refine Calls.tell (op_c _ (by rw [ByteArray.size_extract]; omega) _) fun v w4 ⟨u4, hv4, h4, hf4⟩ => ?_
            subst hv4
            have hI := hI.frame hf4
            rw [ByteArray.size_extract] at h4
            refine ⟨u4, rfl, fun h => hf4.keep _ h fun h => h, fun _ => ?_, fun hr => ?_⟩
            · intro w9 hf9 _
              exact ⟨[], none, 0, 0, _, _, rfl, TokS.nil _ _, by omega, hI.fr.late hf9 fun i hi h => by omega⟩
            · have hu : u4.size ≠ 0 := by
                intro h0
                have : u4 = ⟨#[]⟩ := by
                  cases u4 with
                  | mk a => simp [bsz_mk] at h0; simp [h0]
                rw [this] at hr
                simp at hr
              rw [wrap_i64 (x := i + (u4.size : Int)) (by omega) (by omega)]
              intro w7 hw7
              obtain ⟨p7, n7, c7, w8, hr7, hb7, hI7⟩ := hI.app T86 (k' := (i+(u4.size:Int))) ⟨by omega, by omega⟩ _ hw7
              exact ⟨p7, n7, c7, w8, hr7, hb7, by omega, by omega, hI7⟩
      · rintro k out ol oc tL tl tc tA tE w2 ⟨k0, k1, hI2⟩
        exact ⟨⟨by omega, k1, hI2⟩, by dsimp only; omega⟩
  · simp only [decide_eq_false_iff_not] at hge
    have hI2 := hI.fr.late hf2 fun i hi h => by omega
    obtain ⟨base, l, hbase, hb2, hb3, ho, hl⟩ := hI.row
    have ho2 := ho.kept (row := some b) (grownBy_of_Fr hf2 fun i _ h => by rw [h]) (by
      by_cases hv : (Value.slice out ol oc).ownBlock = some b
      · have := (ho.lt b hv).1; omega
      · exact .inr hv)
    have hT : TInv w 86 b i (.slice out ol oc) w2 := ⟨hI2, by have := hI.lt; have := hf2.size; omega, base, l, hbase, hb2, by have := hf2.size; omega, ho2, hl⟩
    obtain ⟨l2, hl2, hle⟩ := hT.toks
    exact ⟨l2, out, ol, oc, 0, 0, rfl, hl2, by omega, hI2⟩
end Go.Proofs.Ytjlkgedcpmoehaa
