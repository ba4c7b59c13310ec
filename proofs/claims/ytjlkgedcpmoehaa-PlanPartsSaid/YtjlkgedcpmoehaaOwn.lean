/-
  Rows of nodes that a call owns, and what append makes of them. For every program.
-/
import Derived.Test.YtjlkgedcpmoehaaRep
import Derived.Maps.AppendAt
import Derived.Laws.OwnMore
import Derived.Lib.AppendZeros
set_option linter.unusedVariables false
set_option linter.unusedSimpArgs false
namespace Go.Vc

/-! ### Blocks that are known whole -/

def Blk (w : World) (b : Nat) (cs : List Value) (T : TypeId) : Prop := w.heap[b]? = some (.cells cs.toArray T (0, 0))

theorem Blk.new (w : World) (cs : List Value) (T : TypeId) : Blk (w.alloc (.cells cs.toArray T)) w.heap.size cs T := heap_alloc_new w _
theorem Blk.lt {w : World} {b : Nat} {cs : List Value} {T : TypeId} (h : Blk w b cs T) : b < w.heap.size := (Array.getElem?_eq_some_iff.1 h).1
theorem Blk.frame {M : Nat → Prop} {w w' : World} {b : Nat} {cs : List Value} {T : TypeId} (h : Blk w b cs T) (hf : Fr M w w') (hm : ¬ M b) : Blk w' b cs T := (hf.keep b h.lt hm).trans h
theorem Blk.cell {w : World} {b : Nat} {cs : List Value} {T : TypeId} (h : Blk w b cs T) {i : Nat} {v : Value} (hi : cs[i]? = some v) : w.cell? ((⟨b, 0, none⟩ : Addr).add i) = some v := by
  rw [addr_add, Nat.zero_add, cell_of_row w b i _ T (0, 0) h]
  simpa using hi
theorem Blk.cell0 {w : World} {b : Nat} {v : Value} {cs : List Value} {T : TypeId} (h : Blk w b (v :: cs) T) : w.cell? (⟨b, 0, none⟩ : Addr) = some v := h.cell (i := 0) rfl
theorem Blk.isSome {w : World} {b : Nat} {cs : List Value} {T : TypeId} (h : Blk w b cs T) {i : Nat} (hi : i < cs.length) : (w.cell? ((⟨b, 0, none⟩ : Addr).add i)).isSome = true := by
  rw [h.cell (List.getElem?_eq_getElem hi)]; rfl
theorem Blk.frozen {w : World} {b : Nat} {cs : List Value} {T : TypeId} (h : Blk w b cs T) (i : Nat) : w.frozen? ((⟨b, 0, none⟩ : Addr).add i) = false := by
  rw [addr_add]; exact frozen_of_row w b _ _ T h
theorem Blk.set {w : World} {b : Nat} {cs : List Value} {T : TypeId} (h : Blk w b cs T) (i : Nat) (v : Value) : Blk (w.setCell ((⟨b, 0, none⟩ : Addr).add i) v) b (cs.set i v) T := by
  rw [addr_add, Nat.zero_add]
  have := heap_setCell_same w b i _ T v h
  unfold Blk
  rw [this]
  simp

theorem set_fr (w : World) (b i : Nat) (v : Value) : Fr (fun k => k = b) w (w.setCell ((⟨b, 0, none⟩ : Addr).add i) v) := by
  have := Fr.setCell w ((⟨b, 0, none⟩ : Addr).add i) v
  rwa [add_block] at this

/-- One cell is stored. -/
theorem store1 {w : World} {b : Nat} {cs : List Value} {T : TypeId} (h : Blk w b cs T) (i : Nat) (hi : i < cs.length) (v : Value) {K : Prop}
    (hK : Blk (w.setCell ((⟨b, 0, none⟩ : Addr).add i) v) b (cs.set i v) T → Fr (fun k => k = b) w (w.setCell ((⟨b, 0, none⟩ : Addr).add i) v) → K) :
    (w.cell? ((⟨b, 0, none⟩ : Addr).add i)).isSome = true ∧ (w.frozen? ((⟨b, 0, none⟩ : Addr).add i) = false ∧ (K)) :=
  ⟨h.isSome hi, h.frozen i, hK (h.set i v) (set_fr w b i v)⟩

theorem Fr.same {M : Nat → Prop} {a b c : World} (h : Fr M a b) (k : Fr M b c) : Fr M a c := h.trans k (fun _ _ h => h) fun _ _ h => h

/-- The six cells of a node are stored. -/
theorem store6 {w : World} {b : Nat} {cs : List Value} {T : TypeId} (h : Blk w b cs T) (hl : cs.length = 6) {v0 v1 v2 v3 v4 v5 : Value} {K : Prop}
    (hK : ∀ w', w' = (((((w.setCell (⟨b, 0, none⟩ : Addr) v0).setCell ((⟨b, 0, none⟩ : Addr).add 1) v1).setCell ((⟨b, 0, none⟩ : Addr).add 2) v2).setCell ((⟨b, 0, none⟩ : Addr).add 3) v3).setCell ((⟨b, 0, none⟩ : Addr).add 4) v4).setCell ((⟨b, 0, none⟩ : Addr).add 5) v5 →
      Blk w' b [v0, v1, v2, v3, v4, v5] T → Fr (fun k => k = b) w w' → K) :
    (w.cell? (⟨b, 0, none⟩ : Addr)).isSome = true ∧ (w.frozen? (⟨b, 0, none⟩ : Addr) = false ∧ (
    ((w.setCell (⟨b, 0, none⟩ : Addr) v0).cell? ((⟨b, 0, none⟩ : Addr).add 1)).isSome = true ∧ ((w.setCell (⟨b, 0, none⟩ : Addr) v0).frozen? ((⟨b, 0, none⟩ : Addr).add 1) = false ∧ (
    (((w.setCell (⟨b, 0, none⟩ : Addr) v0).setCell ((⟨b, 0, none⟩ : Addr).add 1) v1).cell? ((⟨b, 0, none⟩ : Addr).add 2)).isSome = true ∧ (((w.setCell (⟨b, 0, none⟩ : Addr) v0).setCell ((⟨b, 0, none⟩ : Addr).add 1) v1).frozen? ((⟨b, 0, none⟩ : Addr).add 2) = false ∧ (
    ((((w.setCell (⟨b, 0, none⟩ : Addr) v0).setCell ((⟨b, 0, none⟩ : Addr).add 1) v1).setCell ((⟨b, 0, none⟩ : Addr).add 2) v2).cell? ((⟨b, 0, none⟩ : Addr).add 3)).isSome = true ∧ ((((w.setCell (⟨b, 0, none⟩ : Addr) v0).setCell ((⟨b, 0, none⟩ : Addr).add 1) v1).setCell ((⟨b, 0, none⟩ : Addr).add 2) v2).frozen? ((⟨b, 0, none⟩ : Addr).add 3) = false ∧ (
    (((((w.setCell (⟨b, 0, none⟩ : Addr) v0).setCell ((⟨b, 0, none⟩ : Addr).add 1) v1).setCell ((⟨b, 0, none⟩ : Addr).add 2) v2).setCell ((⟨b, 0, none⟩ : Addr).add 3) v3).cell? ((⟨b, 0, none⟩ : Addr).add 4)).isSome = true ∧ (((((w.setCell (⟨b, 0, none⟩ : Addr) v0).setCell ((⟨b, 0, none⟩ : Addr).add 1) v1).setCell ((⟨b, 0, none⟩ : Addr).add 2) v2).setCell ((⟨b, 0, none⟩ : Addr).add 3) v3).frozen? ((⟨b, 0, none⟩ : Addr).add 4) = false ∧ (
    ((((((w.setCell (⟨b, 0, none⟩ : Addr) v0).setCell ((⟨b, 0, none⟩ : Addr).add 1) v1).setCell ((⟨b, 0, none⟩ : Addr).add 2) v2).setCell ((⟨b, 0, none⟩ : Addr).add 3) v3).setCell ((⟨b, 0, none⟩ : Addr).add 4) v4).cell? ((⟨b, 0, none⟩ : Addr).add 5)).isSome = true ∧ ((((((w.setCell (⟨b, 0, none⟩ : Addr) v0).setCell ((⟨b, 0, none⟩ : Addr).add 1) v1).setCell ((⟨b, 0, none⟩ : Addr).add 2) v2).setCell ((⟨b, 0, none⟩ : Addr).add 3) v3).setCell ((⟨b, 0, none⟩ : Addr).add 4) v4).frozen? ((⟨b, 0, none⟩ : Addr).add 5) = false ∧ (
    K)))))))))))) := by
  have h1 := h.set 0 v0
  have h2 := h1.set 1 v1
  have h3 := h2.set 2 v2
  have h4 := h3.set 3 v3
  have h5 := h4.set 4 v4
  have h6 := h5.set 5 v5
  have f1 := set_fr w b 0 v0
  refine ⟨h.isSome (i := 0) (by omega), h.frozen 0, h1.isSome (by simp; omega), h1.frozen 1, h2.isSome (by simp; omega), h2.frozen 2, h3.isSome (by simp; omega), h3.frozen 3, h4.isSome (by simp; omega), h4.frozen 4, h5.isSome (by simp; omega), h5.frozen 5, hK _ rfl ?_ ?_⟩
  · match cs, hl with
    | [_, _, _, _, _, _], _ => exact h6
  · exact ((((f1.same (set_fr _ b 1 v1)).same (set_fr _ b 2 v2)).same (set_fr _ b 3 v3)).same (set_fr _ b 4 v4)).same (set_fr _ b 5 v5)

/-! ### Rows of nodes -/

/-- The cells of nodes, one behind another; none of the blocks of their lists is in ν. -/
def RowOf (ν : Nat → Prop) (w : World) : List Nd → List Value → Prop
  | [], xs => xs = []
  | x :: l, xs => ∃ k o s t n p len cap ys, xs = [.int .i64 k, .int .i64 o, .string s, .string t, .int .i64 n, .slice p len cap] ++ ys ∧ NdV ν w x k o s t n p len cap ∧ RowOf ν w l ys

theorem RowOf.frame {ν M : Nat → Prop} {w w' : World} (hf : Fr M w w') (hM : ∀ i, i < w.heap.size → M i → ν i) : ∀ {l : List Nd} {xs : List Value}, RowOf ν w l xs → RowOf ν w' l xs
  | [], _, h => h
  | x :: l, xs, ⟨k, o, s, t, n, p, len, cap, ys, h1, h2, h3⟩ => ⟨k, o, s, t, n, p, len, cap, ys, h1, h2.frame hf hM, RowOf.frame hf hM h3⟩

theorem RowOf.anti {ν μ : Nat → Prop} {w : World} (hM : ∀ i, i < w.heap.size → μ i → ν i) : ∀ {l : List Nd} {xs : List Value}, RowOf ν w l xs → RowOf μ w l xs
  | [], _, h => h
  | x :: l, xs, ⟨k, o, s, t, n, p, len, cap, ys, h1, h2, h3⟩ => ⟨k, o, s, t, n, p, len, cap, ys, h1, h2.anti hM, RowOf.anti hM h3⟩

theorem RowOf.append {ν : Nat → Prop} {w : World} {m : List Nd} {ys : List Value} (hm : RowOf ν w m ys) : ∀ {l : List Nd} {xs : List Value}, RowOf ν w l xs → RowOf ν w (l ++ m) (xs ++ ys)
  | [], _, h => by rw [show _ = [] from h]; exact hm
  | x :: l, xs, ⟨k, o, s, t, n, p, len, cap, zs, h1, h2, h3⟩ => ⟨k, o, s, t, n, p, len, cap, zs ++ ys, by rw [h1]; simp, h2, RowOf.append hm h3⟩

theorem RowOf.len {ν : Nat → Prop} {w : World} : ∀ {l : List Nd} {xs : List Value}, RowOf ν w l xs → xs.length = l.length * 6
  | [], _, h => by rw [show _ = [] from h]; rfl
  | x :: l, xs, ⟨k, o, s, t, n, p, len, cap, zs, h1, h2, h3⟩ => by
    rw [h1, List.length_append, RowOf.len h3]; simp; omega

theorem RowOf.one {ν : Nat → Prop} {w : World} : ∀ {l : List Nd} {xs : List Value}, RowOf ν w l xs → ∀ u ∈ xs, u.oneCell' = true
  | [], _, h, u, hu => by rw [show _ = [] from h] at hu; cases hu
  | x :: l, xs, ⟨k, o, s, t, n, p, len, cap, zs, h1, h2, h3⟩, u, hu => by
    rw [h1, List.mem_append] at hu
    rcases hu with hu | hu
    · simp only [List.mem_cons, List.not_mem_nil, or_false] at hu
      rcases hu with rfl | rfl | rfl | rfl | rfl | rfl <;> rfl
    · exact RowOf.one h3 u hu

/-- What lies in a row as these cells is a row of nodes. -/
theorem RowOf.row {ν : Nat → Prop} {w : World} {a : Addr} (ha : ¬ ν a.block) : ∀ {l : List Nd} {xs : List Value} {i : Nat}, RowOf ν w l xs → (∀ j u, xs[j]? = some u → w.cell? (a.add (i * 6 + j)) = some u) → NdRow ν w l (some a) i
  | [], _, _, _, _ => trivial
  | x :: l, xs, i, ⟨k, o, s, t, n, p, len, cap, zs, h1, h2, h3⟩, h => by
    subst h1
    refine ⟨⟨a, rfl, NdR.mk' h2 (by rwa [add_block]) (h 0 _ rfl) ?_ ?_ ?_ ?_ (cap := cap) ?_⟩, RowOf.row ha h3 fun j u hu => ?_⟩
    · rw [add_add]; exact h 1 _ rfl
    · rw [add_add]; exact h 2 _ rfl
    · rw [add_add]; exact h 3 _ rfl
    · rw [add_add]; exact h 4 _ rfl
    · rw [add_add]; exact h 5 _ rfl
    · have := h (6 + j) u (by rw [List.getElem?_append_right (by simp)]; simpa using hu)
      rwa [show (i + 1) * 6 + j = i * 6 + (6 + j) from by omega]

/-- A row of nodes, as cells. -/
theorem NdRow.cells {ν : Nat → Prop} {w : World} {a : Addr} : ∀ {l : List Nd} {i : Nat}, NdRow ν w l (some a) i → ∃ xs, RowOf ν w l xs ∧ ∀ j u, xs[j]? = some u → w.cell? (a.add (i * 6 + j)) = some u
  | [], i, _ => ⟨[], rfl, fun j u hu => by simp at hu⟩
  | x :: l, i, h => by
    obtain ⟨⟨a', h1, h2⟩, h3⟩ := h
    cases h1
    obtain ⟨xs, h4, h5⟩ := NdRow.cells h3
    obtain ⟨k, o, s, t, n, p, len, cap, g0, g1, g2, g3, g4, g5, g6, g7⟩ := h2.cells
    refine ⟨_, ⟨k, o, s, t, n, p, len, cap, xs, rfl, g7, h4⟩, fun j u hu => ?_⟩
    rw [add_add] at g2 g3 g4 g5 g6
    match j, hu with
    | 0, hu => cases hu; exact g1
    | 1, hu => cases hu; exact g2
    | 2, hu => cases hu; exact g3
    | 3, hu => cases hu; exact g4
    | 4, hu => cases hu; exact g5
    | 5, hu => cases hu; exact g6
    | j + 6, hu =>
      rw [show i * 6 + (j + 6) = (i + 1) * 6 + j from by omega]
      exact h5 j u (by rw [List.getElem?_append_right (by simp)] at hu; simpa using hu)

theorem NdS.cells {μ : Nat → Prop} {w : World} {l : List Nd} {a : Addr} {len : Nat} (h : NdS μ w l (some a) len) : ∃ xs, RowOf μ w l xs ∧ ∀ j u, xs[j]? = some u → w.cell? (a.add j) = some u := by
  obtain ⟨xs, h1, h2⟩ := NdRow.cells h.2
  exact ⟨xs, h1, fun j u hu => by simpa using h2 j u hu⟩

/-- A slice of nodes that a call owns. -/
def OwnS (μ : Nat → Prop) (w : World) (base : Nat) (e : TypeId) (l : List Nd) (v : Value) : Prop :=
  ∃ xs, w.ownsRow base e 6 v l.length xs ∧ RowOf (fun i => μ i ∨ v.ownBlock = some i) w l xs

theorem OwnS.nil (μ : Nat → Prop) (w : World) (base : Nat) (e : TypeId) : OwnS μ w base e [] (.slice none 0 0) := ⟨[], World.ownsRow_nil w base e 6, rfl⟩

theorem OwnS.shape {μ : Nat → Prop} {w : World} {base : Nat} {e : TypeId} {l : List Nd} {v : Value} (h : OwnS μ w base e l v) : ∃ p cap, v = .slice p l.length cap := by
  obtain ⟨xs, h1, h2⟩ := h
  rcases h1.2 with ⟨rfl, h⟩ | ⟨g, cap, cur, rfl, _⟩
  · exact ⟨none, 0, by rw [h]⟩
  · exact ⟨_, _, rfl⟩

theorem OwnS.nds {μ : Nat → Prop} {w : World} {base : Nat} {e : TypeId} {l : List Nd} {p : Option Addr} {len cap : Nat} (h : OwnS μ w base e l (.slice p len cap)) (hμ : ∀ i, μ i → i < base) : NdS μ w l p len := by
  obtain ⟨xs, h1, h2⟩ := h
  rcases h1.2 with ⟨h, h0⟩ | ⟨g, cap', cur, h, hb, hg, _⟩
  · cases h
    have : l = [] := List.length_eq_zero_iff.1 h0
    subst this
    exact NdS.nil _ _ _
  · cases h
    refine ⟨rfl, RowOf.row (ν := μ) (fun hm => ?_) (h2.anti fun _ _ h => .inl h) fun j u hu => by simpa using h1.cells (g := g) rfl j u hu⟩
    have := hμ _ hm
    simp at this
    omega

theorem OwnS.block {μ : Nat → Prop} {w : World} {base : Nat} {e : TypeId} {l : List Nd} {v : Value} (h : OwnS μ w base e l v) {i : Nat} (hi : v.ownBlock = some i) : base ≤ i ∧ i < w.heap.size := by
  obtain ⟨xs, h1, _⟩ := h
  exact h1.lt i hi

theorem OwnS.mono {μ : Nat → Prop} {w : World} {base base' : Nat} {e : TypeId} {l : List Nd} {v : Value} (h : OwnS μ w base e l v) (hb : base' ≤ base) : OwnS μ w base' e l v := by
  obtain ⟨xs, ⟨h0, h1⟩, h2⟩ := h
  refine ⟨xs, ⟨h0, ?_⟩, h2⟩
  rcases h1 with h1 | ⟨g, cap, cur, h3, h4, h5⟩
  · exact .inl h1
  · exact .inr ⟨g, cap, cur, h3, by omega, h5⟩

theorem OwnS.anti {μ ν : Nat → Prop} {w : World} {base : Nat} {e : TypeId} {l : List Nd} {v : Value} (h : OwnS μ w base e l v) (hb : ∀ i, i < w.heap.size → ν i → μ i ∨ v.ownBlock = some i) : OwnS ν w base e l v := by
  obtain ⟨xs, h1, h2⟩ := h
  refine ⟨xs, h1, h2.anti fun i hi h => ?_⟩
  rcases h with h | h
  · exact hb i hi h
  · exact .inr h

theorem grownBy_of_Fr {M : Nat → Prop} {w w' : World} {row : Option Nat} (h : Fr M w w') (hM : ∀ i, i < w.heap.size → M i → row = some i) : w.grownBy w' row :=
  ⟨h.os, h.tape, h.output, h.size, fun k hk hn => h.keep k hk fun hm => hn (hM k hk hm).symm⟩
theorem Fr_of_grownBy {w w' : World} {row : Option Nat} (h : w.grownBy w' row) : Fr (fun i => row = some i) w w' :=
  ⟨h.os, h.tape, h.output, h.size, fun k hk hn => h.block k hk fun hm => hn hm.symm⟩

theorem OwnS.frame {μ M : Nat → Prop} {w w' : World} {base : Nat} {e : TypeId} {l : List Nd} {v : Value} (h : OwnS μ w base e l v) (hf : Fr M w w') (hM : ∀ i, i < w.heap.size → M i → μ i ∧ v.ownBlock ≠ some i) : OwnS μ w' base e l v := by
  obtain ⟨xs, h1, h2⟩ := h
  refine ⟨xs, ?_, h2.frame hf fun i hi hm => .inl (hM i hi hm).1⟩
  by_cases hv : v.ownBlock = none
  · rcases h1.2 with h3 | ⟨g, cap, cur, rfl, _⟩
    · exact ⟨h1.1, .inl h3⟩
    · simp [Value.ownBlock] at hv
  · obtain ⟨g, hg⟩ := Option.ne_none_iff_exists'.1 hv
    rcases h1.2 with h3 | ⟨g', cap, cur, rfl, h4, h5, h6⟩
    · exact ⟨h1.1, .inl h3⟩
    · refine ⟨h1.1, .inr ⟨g', cap, cur, rfl, h4, ?_, h6⟩⟩
      rw [hf.keep g' (Array.getElem?_eq_some_iff.1 h5).1 fun hm => (hM g' (Array.getElem?_eq_some_iff.1 h5).1 hm).2 rfl]
      exact h5

/-- A literal of nodes. -/
theorem OwnS.lit {μ : Nat → Prop} {w : World} {base : Nat} {e : TypeId} {l : List Nd} {xs : List Value} (hb : base ≤ w.heap.size) (hm : l.length ≤ maxLen) (h : RowOf μ w l xs) :
    OwnS μ (w.alloc (.cells xs.toArray e)) base e l (.slice (some ⟨w.heap.size, 0, none⟩) l.length l.length) := by
  refine ⟨xs, ?_, ?_⟩
  · have := World.ownsRow_lit (e := e) (size := 6) (base := base) w xs.toArray l.length hb hm (by simpa using h.len)
    simpa using this
  · refine (h.anti fun i hi hh => ?_).frame (Fr.newBlock (fun _ => False) w _) fun _ _ h => h.elim
    rcases hh with hh | hh
    · exact hh
    · simp [Value.ownBlock] at hh; omega

/-- What the type of the nodes' slice is. -/
structure NodeTy (P : Program) (t e : TypeId) where
  i : TypeInfo
  z : Value
  ht : P.underlying t = some (.slice e)
  hi : P.info? e = some i
  hz : i.zero = some z
  size : i.size = 6
  bytes : i.bytes = 80
  zs : z.cells.size = 6

theorem OwnS.appendAt {P : Program} {t e : TypeId} (T : NodeTy P t e) (ty : TypeId) {μ : Nat → Prop} {w : World} {base : Nat} {l m : List Nd} {v : Value} {p : Option Addr} {len cap : Nat} (h : OwnS μ w base e l v)
    (hm : NdS (fun i => μ i ∨ v.ownBlock = some i) w m p len) (hp : p = none → cap = 0) (hbase : base ≤ w.heap.size) (hlen : l.length + m.length ≤ 1000000000) :
    ∃ v' w', (Builtin.append_ #[t, t] ty #[v, .slice p len cap]).run P w = .ok v' w' ∧ OwnS μ w' base e (l ++ m) v' ∧ Fr (fun i => v.ownBlock = some i) w w' ∧ (v'.ownBlock = v.ownBlock ∨ v'.ownBlock = some w.heap.size) := by
  obtain ⟨xs, h1, h2⟩ := h
  have hlm := hm.1
  subst hlm
  cases p with
  | none =>
    have hm0 : m = [] := by
      cases m with
      | nil => rfl
      | cons x m => obtain ⟨⟨a, h, _⟩, _⟩ := hm.2; cases h
    subst hm0
    have := run_append_owned_none (P := P) w (ty := ty) base t e T.i 6 T.ht T.hi v l.length xs h1
    rw [hp rfl]
    refine ⟨v, w, this, ?_, Fr.refl _ _, .inl rfl⟩
    rw [List.append_nil]
    exact ⟨xs, h1, h2⟩
  | some a =>
    obtain ⟨ys, h3, h4⟩ := hm.cells
    obtain ⟨v', w', hr, ho, hg, _, hat⟩ := run_append_own_at (P := P) w base t ty e T.i T.z 6 80 T.ht T.hi T.hz T.size T.bytes T.zs (by omega) v l.length xs h1 a m.length cap ys h3.len h4 h3.one (by simp only [maxLen]; omega) (by omega) hbase
    refine ⟨v', w', hr, ⟨xs ++ ys, by rw [List.length_append]; exact ho, ?_⟩, Fr_of_grownBy hg, hat⟩
    have h5 : RowOf (fun i => (μ i ∨ v.ownBlock = some i) ∨ v'.ownBlock = some i) w (l ++ m) (xs ++ ys) := (h3.append h2).anti fun i hi h => by
      rcases h with h | h
      · exact h
      · rcases hat with hat | hat
        · exact .inr (hat ▸ h)
        · rw [hat] at h; cases h; omega
    exact (h5.frame (Fr_of_grownBy hg) fun i _ h => .inl (.inr h)).anti fun i _ h => h.elim (fun h => .inl (.inl h)) .inr

theorem OwnS.append {P : Program} {t e : TypeId} (T : NodeTy P t e) (ty : TypeId) {μ : Nat → Prop} {w : World} {base : Nat} {l m : List Nd} {v : Value} {p : Option Addr} {len cap : Nat} (h : OwnS μ w base e l v)
    (hm : NdS (fun i => μ i ∨ v.ownBlock = some i) w m p len) (hp : p = none → cap = 0) (hbase : base ≤ w.heap.size) (hlen : l.length + m.length ≤ 1000000000) :
    ∃ v' w', (Builtin.append_ #[t, t] ty #[v, .slice p len cap]).run P w = .ok v' w' ∧ OwnS μ w' base e (l ++ m) v' ∧ Fr (fun i => v.ownBlock = some i) w w' := by
  obtain ⟨v', w', h1, h2, h3, _⟩ := h.appendAt T ty hm hp hbase hlen
  exact ⟨v', w', h1, h2, h3⟩

theorem OwnS.ndsAt {μ : Nat → Prop} {w : World} {base : Nat} {e : TypeId} {l : List Nd} {p : Option Addr} {len cap : Nat} (h : OwnS μ w base e l (.slice p len cap)) (hμ : ∀ i, (Value.slice p len cap).ownBlock = some i → ¬ μ i) : NdS μ w l p len := by
  obtain ⟨xs, h1, h2⟩ := h
  rcases h1.2 with ⟨h, h0⟩ | ⟨g, cap', cur, h, hb, hg, _⟩
  · cases h
    have : l = [] := List.length_eq_zero_iff.1 h0
    subst this
    exact NdS.nil _ _ _
  · cases h
    exact ⟨rfl, RowOf.row (ν := μ) (hμ g rfl) (h2.anti fun _ _ h => .inl h) fun j u hu => by simpa using h1.cells (g := g) rfl j u hu⟩
end Go.Vc
