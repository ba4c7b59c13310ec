/-
  How trees of nodes and lists of tokens lie in memory, and that they lie so behind whatever leaves their blocks alone. For every program.
-/
import Derived.Test.YtjlkgedcpmoehaaVcS
import Derived.Laws.AppendOwn
import Derived.Laws.BitsLemmas
set_option linter.unusedVariables false
set_option linter.unusedSimpArgs false
namespace Go.Vc

/-- What a call hands back, and the world behind it. -/
abbrev Ret (R : Value → World → Prop) : Ending → World → Prop := fun e w' => ∃ v, e = .returned v ∧ R v w'

theorem cell_lt {w : World} {a : Addr} {v : Value} (h : w.cell? a = some v) : a.block < w.heap.size := World.block_lt_of_cell? w a h

theorem Fr.cell {M : Nat → Prop} {w w' : World} (h : Fr M w w') {a : Addr} {v : Value} (hc : w.cell? a = some v) (hm : ¬ M a.block) : w'.cell? a = some v := by
  rw [← hc]; exact World.cell?_of_block (h.keep _ (cell_lt hc) hm)

theorem Fr.drop {M N : Nat → Prop} {w w' : World} (h : Fr M w w') (k : ∀ i, i < w.heap.size → M i → N i) : Fr N w w' := h.mono k

theorem Fr.ext {M : Nat → Prop} {w w' : World} (h : Fr (fun _ => False) w w') : Fr M w w' := h.mono fun _ _ h => h.elim

theorem Fr.newBlock (M : Nat → Prop) (w : World) (o : Obj) : Fr M w (w.alloc o) := (Fr.refl M w).alloc o

theorem alloc_cell_old {w : World} {o : Obj} {a : Addr} {v : Value} (h : w.cell? a = some v) : (w.alloc o).cell? a = some v :=
  (Fr.newBlock (fun _ => False) w o).cell h (fun h => h)

theorem alloc_size (w : World) (o : Obj) : (w.alloc o).heap.size = w.heap.size + 1 := by
  show (w.heap.push o).size = _; simp

theorem alloc_cell_new {w : World} {cs : Array Value} {T : TypeId} {i : Nat} {v : Value} (h : cs[i]? = some v) : (w.alloc (.cells cs T)).cell? ((⟨w.heap.size, 0, none⟩ : Addr).add i) = some v := by
  rw [addr_add, Nat.zero_add]
  have : (w.alloc (.cells cs T)).heap[w.heap.size]? = some (.cells cs T) := by show (w.heap.push _)[w.heap.size]? = _; simp
  unfold World.cell?
  dsimp only
  rw [this]
  exact h

theorem add_add (a : Addr) (i j : Nat) : (a.add i).add j = a.add (i + j) := by
  unfold Addr.add
  by_cases hi : i = 0
  · subst hi; simp
  · by_cases hj : j = 0
    · subst hj; simp [hi]
    · have : i + j ≠ 0 := by omega
      simp [hi, hj, this, Nat.add_assoc]

theorem add_zero' (a : Addr) : a.add 0 = a := rfl

inductive Nd where
  | mk (k o : Int) (s t : ByteArray) (n : Int) (l : List Nd)

mutual
/-- A node lies at an address; none of its blocks is in μ. -/
def NdR (μ : Nat → Prop) (w : World) : Nd → Addr → Prop
  | .mk k o s t n l, a => ¬ μ a.block ∧ w.cell? a = some (.int .i64 k) ∧ w.cell? (a.add 1) = some (.int .i64 o) ∧ w.cell? (a.add 2) = some (.string s) ∧ w.cell? (a.add 3) = some (.string t) ∧
      w.cell? (a.add 4) = some (.int .i64 n) ∧ ∃ p len cap, w.cell? (a.add 5) = some (.slice p len cap) ∧ len ≤ cap ∧ len = l.length ∧ NdRow μ w l p 0
/-- Nodes lie in a row, from place i on. -/
def NdRow (μ : Nat → Prop) (w : World) : List Nd → Option Addr → Nat → Prop
  | [], _, _ => True
  | x :: xs, p, i => (∃ a, p = some a ∧ NdR μ w x (a.add (i * 6))) ∧ NdRow μ w xs p (i + 1)
end

/-- A slice of nodes. -/
def NdS (μ : Nat → Prop) (w : World) (l : List Nd) (p : Option Addr) (len : Nat) : Prop := len = l.length ∧ NdRow μ w l p 0

mutual
theorem NdR.frame {μ M : Nat → Prop} {w w' : World} (h : Fr M w w') (hM : ∀ i, i < w.heap.size → M i → μ i) : ∀ {x : Nd} {a : Addr}, NdR μ w x a → NdR μ w' x a
  | .mk k o s t n l, a, hx => by
    obtain ⟨h0, h1, h2, h3, h4, h5, p, len, cap, h6, hle, h7, h8⟩ := hx
    have hb : ¬ M a.block := fun hm => h0 (hM _ (cell_lt h1) hm)
    have hc : ∀ i v, w.cell? (a.add i) = some v → w'.cell? (a.add i) = some v := fun i v hv => h.cell hv (by rw [add_block]; exact hb)
    exact ⟨h0, hc 0 _ h1, hc 1 _ h2, hc 2 _ h3, hc 3 _ h4, hc 4 _ h5, p, len, cap, hc 5 _ h6, hle, h7, NdRow.frame h hM h8⟩
theorem NdRow.frame {μ M : Nat → Prop} {w w' : World} (h : Fr M w w') (hM : ∀ i, i < w.heap.size → M i → μ i) : ∀ {l : List Nd} {p : Option Addr} {i : Nat}, NdRow μ w l p i → NdRow μ w' l p i
  | [], _, _, _ => trivial
  | x :: xs, p, i, hx => by
    obtain ⟨⟨a, h1, h2⟩, h3⟩ := hx
    exact ⟨⟨a, h1, NdR.frame h hM h2⟩, NdRow.frame h hM h3⟩
end

theorem NdS.frame {μ M : Nat → Prop} {w w' : World} {l : List Nd} {p : Option Addr} {len : Nat} (hx : NdS μ w l p len) (h : Fr M w w') (hM : ∀ i, i < w.heap.size → M i → μ i) : NdS μ w' l p len :=
  ⟨hx.1, hx.2.frame h hM⟩

mutual
theorem NdR.anti {μ ν : Nat → Prop} {w : World} (h : ∀ i, i < w.heap.size → ν i → μ i) : ∀ {x : Nd} {a : Addr}, NdR μ w x a → NdR ν w x a
  | .mk k o s t n l, a, hx => by
    obtain ⟨h0, h1, h2, h3, h4, h5, p, len, cap, h6, hle, h7, h8⟩ := hx
    exact ⟨fun hm => h0 (h _ (cell_lt h1) hm), h1, h2, h3, h4, h5, p, len, cap, h6, hle, h7, NdRow.anti h h8⟩
theorem NdRow.anti {μ ν : Nat → Prop} {w : World} (h : ∀ i, i < w.heap.size → ν i → μ i) : ∀ {l : List Nd} {p : Option Addr} {i : Nat}, NdRow μ w l p i → NdRow ν w l p i
  | [], _, _, _ => trivial
  | x :: xs, p, i, hx => by
    obtain ⟨⟨a, h1, h2⟩, h3⟩ := hx
    exact ⟨⟨a, h1, NdR.anti h h2⟩, NdRow.anti h h3⟩
end

/-- μ may be turned as one likes where there is no block yet, and made smaller. -/
theorem NdS.anti {μ ν : Nat → Prop} {w : World} {l : List Nd} {p : Option Addr} {len : Nat} (hx : NdS μ w l p len) (h : ∀ i, i < w.heap.size → ν i → μ i) : NdS ν w l p len := ⟨hx.1, hx.2.anti h⟩

theorem NdRow.get {μ : Nat → Prop} {w : World} : ∀ {l : List Nd} {p : Option Addr} {i j : Nat} {x : Nd}, NdRow μ w l p i → l[j]? = some x → ∃ a, p = some a ∧ NdR μ w x (a.add ((i + j) * 6))
  | y :: ys, p, i, 0, x, h, hj => by simp at hj; subst hj; exact h.1
  | y :: ys, p, i, j + 1, x, h, hj => by
    have := NdRow.get (j := j) h.2 (by simpa using hj)
    rw [show i + (j + 1) = i + 1 + j from by omega]
    exact this

theorem NdS.get {μ : Nat → Prop} {w : World} {l : List Nd} {p : Option Addr} {len j : Nat} {x : Nd} (h : NdS μ w l p len) (hj : l[j]? = some x) : ∃ a, p = some a ∧ NdR μ w x (a.add (j * 6)) := by
  have := h.2.get hj
  rwa [Nat.zero_add] at this

theorem NdRow.mk {μ : Nat → Prop} {w : World} {a : Addr} : ∀ {l : List Nd} {i : Nat}, (∀ j x, l[j]? = some x → NdR μ w x (a.add ((i + j) * 6))) → NdRow μ w l (some a) i
  | [], _, _ => trivial
  | x :: xs, i, h => ⟨⟨a, rfl, by simpa using h 0 x rfl⟩, NdRow.mk fun j y hj => by
      have := h (j + 1) y (by simpa using hj)
      rwa [show i + (j + 1) = i + 1 + j from by omega] at this⟩

theorem NdS.mk' {μ : Nat → Prop} {w : World} {a : Addr} {l : List Nd} {len : Nat} (hl : len = l.length) (h : ∀ j x, l[j]? = some x → NdR μ w x (a.add (j * 6))) : NdS μ w l (some a) len :=
  ⟨hl, NdRow.mk fun j x hj => by rw [Nat.zero_add]; exact h j x hj⟩

theorem NdS.nil (μ : Nat → Prop) (w : World) (p : Option Addr) : NdS μ w [] p 0 := ⟨rfl, trivial⟩

/-- A node as a value: its fields, and where its list lies. -/
def NdV (μ : Nat → Prop) (w : World) (x : Nd) (k o : Int) (s t : ByteArray) (n : Int) (p : Option Addr) (len cap : Nat) : Prop :=
  len ≤ cap ∧ ∃ l, x = .mk k o s t n l ∧ NdS μ w l p len

theorem NdV.frame {μ M : Nat → Prop} {w w' : World} {x : Nd} {k o : Int} {s t : ByteArray} {n : Int} {p : Option Addr} {len cap : Nat} (hx : NdV μ w x k o s t n p len cap) (h : Fr M w w') (hM : ∀ i, i < w.heap.size → M i → μ i) : NdV μ w' x k o s t n p len cap := by
  obtain ⟨hle, l, h1, h2⟩ := hx; exact ⟨hle, l, h1, h2.frame h hM⟩
theorem NdV.anti {μ ν : Nat → Prop} {w : World} {x : Nd} {k o : Int} {s t : ByteArray} {n : Int} {p : Option Addr} {len cap : Nat} (hx : NdV μ w x k o s t n p len cap) (h : ∀ i, i < w.heap.size → ν i → μ i) : NdV ν w x k o s t n p len cap := by
  obtain ⟨hle, l, h1, h2⟩ := hx; exact ⟨hle, l, h1, h2.anti h⟩

/-- The cells of a node that lies at an address. -/
theorem NdR.cells {μ : Nat → Prop} {w : World} {x : Nd} {a : Addr} (h : NdR μ w x a) : ∃ k o s t n p len cap, ¬ μ a.block ∧ w.cell? a = some (.int .i64 k) ∧ w.cell? (a.add 1) = some (.int .i64 o) ∧ w.cell? (a.add 2) = some (.string s) ∧
    w.cell? (a.add 3) = some (.string t) ∧ w.cell? (a.add 4) = some (.int .i64 n) ∧ w.cell? (a.add 5) = some (.slice p len cap) ∧ NdV μ w x k o s t n p len cap := by
  cases x with
  | mk k o s t n l =>
    obtain ⟨h0, h1, h2, h3, h4, h5, p, len, cap, h6, hle, h7, h8⟩ := h
    exact ⟨k, o, s, t, n, p, len, cap, h0, h1, h2, h3, h4, h5, h6, hle, l, rfl, h7, h8⟩

theorem NdR.mk' {μ : Nat → Prop} {w : World} {x : Nd} {a : Addr} {k o : Int} {s t : ByteArray} {n : Int} {p : Option Addr} {len cap : Nat} (hv : NdV μ w x k o s t n p len cap) (h0 : ¬ μ a.block) (h1 : w.cell? a = some (.int .i64 k))
    (h2 : w.cell? (a.add 1) = some (.int .i64 o)) (h3 : w.cell? (a.add 2) = some (.string s)) (h4 : w.cell? (a.add 3) = some (.string t)) (h5 : w.cell? (a.add 4) = some (.int .i64 n)) (h6 : w.cell? (a.add 5) = some (.slice p len cap)) : NdR μ w x a := by
  obtain ⟨hle, l, rfl, h7, h8⟩ := hv
  exact ⟨h0, h1, h2, h3, h4, h5, p, len, cap, h6, hle, h7, h8⟩

/-- A token: its kind, its text, its number, its place. -/
structure Tok where
  k : Int
  t : ByteArray
  n : Int
  at_ : Int

def TokR (w : World) (x : Tok) (a : Addr) : Prop :=
  w.cell? a = some (.int .i64 x.k) ∧ w.cell? (a.add 1) = some (.string x.t) ∧ w.cell? (a.add 2) = some (.int .i64 x.n) ∧ w.cell? (a.add 3) = some (.int .i64 x.at_)

/-- A slice of tokens. -/
def TokS (μ : Nat → Prop) (w : World) (l : List Tok) (p : Option Addr) (len : Nat) : Prop :=
  len = l.length ∧ ∀ j x, l[j]? = some x → ∃ a, p = some a ∧ ¬ μ a.block ∧ TokR w x (a.add (j * 4))

theorem TokS.frame {μ M : Nat → Prop} {w w' : World} {l : List Tok} {p : Option Addr} {len : Nat} (hx : TokS μ w l p len) (h : Fr M w w') (hM : ∀ i, i < w.heap.size → M i → μ i) : TokS μ w' l p len := by
  refine ⟨hx.1, fun j x hj => ?_⟩
  obtain ⟨a, h1, h2, h3, h4, h5, h6⟩ := hx.2 j x hj
  have hb : ¬ M a.block := fun hm => h2 (hM _ (by have := cell_lt h3; rwa [add_block] at this) hm)
  have hc : ∀ {c : Addr} {v : Value}, c.block = a.block → w.cell? c = some v → w'.cell? c = some v := fun hcb hv => h.cell hv (by rw [hcb]; exact hb)
  exact ⟨a, h1, h2, hc (by simp [add_block]) h3, hc (by simp [add_block]) h4, hc (by simp [add_block]) h5, hc (by simp [add_block]) h6⟩

theorem TokS.anti {μ ν : Nat → Prop} {w : World} {l : List Tok} {p : Option Addr} {len : Nat} (hx : TokS μ w l p len) (h : ∀ i, i < w.heap.size → ν i → μ i) : TokS ν w l p len := by
  refine ⟨hx.1, fun j x hj => ?_⟩
  obtain ⟨a, h1, h2, h3⟩ := hx.2 j x hj
  exact ⟨a, h1, fun hm => h2 (h _ (by have := cell_lt h3.1; rwa [add_block] at this) hm), h3⟩

/-- The bounds of Go's int are kept by what lies between. -/
theorem wrap_i64 {x : Int} (h1 : -9223372036854775808 ≤ x) (h2 : x ≤ 9223372036854775807) : IntKind.i64.wrap x = x := by
  rw [IntKind.wrap_i64]; omega
end Go.Vc
