/-
  Contract of the parser: which op a token is.
-/
import Derived.Test.YtjlkgedcpmoehaaPa
set_option linter.unusedVariables false
set_option linter.unusedSimpArgs false
set_option maxRecDepth 100000
namespace Go.Vc

/-- A row of pairs of a text and a number. -/
def OpRow (w : World) (p : Option Addr) (n : Nat) : Prop := ∀ i : Nat, i < n → ∃ a : Addr, p = some a ∧ (∃ u : ByteArray, w.cell? (a.add (i * 2)) = some (.string u)) ∧ (∃ z : Int, w.cell? ((a.add (i * 2)).add 1) = some (.int .i64 z))

theorem OpRow.still {w w' : World} {p : Option Addr} {n : Nat} (h : OpRow w p n) (hf : Fr (fun _ => False) w w') : OpRow w' p n := by
  intro i hi
  obtain ⟨a, h1, ⟨u, h2⟩, ⟨z, h3⟩⟩ := h i hi
  exact ⟨a, h1, ⟨u, hf.cell h2 fun h => h⟩, ⟨z, hf.cell h3 fun h => h⟩⟩

theorem opRow0 (w : World) (p : Option Addr) : OpRow w p 0 := fun i hi => by omega
theorem opRow1 {w : World} {b : Nat} {u1 : ByteArray} {z1 : Int} {T : TypeId} (h : Blk w b [.string u1, .int .i64 z1] T) : OpRow w (some (⟨b, 0, none⟩ : Addr)) 1 := by
  intro i hi
  have : i = 0 := by omega
  subst this
  exact ⟨_, rfl, ⟨_, h.cell (i := 0) rfl⟩, ⟨_, by rw [add_add]; exact h.cell (i := 1) rfl⟩⟩
theorem opRow2 {w : World} {b : Nat} {u1 u2 : ByteArray} {z1 z2 : Int} {T : TypeId} (h : Blk w b [.string u1, .int .i64 z1, .string u2, .int .i64 z2] T) : OpRow w (some (⟨b, 0, none⟩ : Addr)) 2 := by
  intro i hi
  have : i = 0 ∨ i = 1 := by omega
  rcases this with rfl | rfl
  · exact ⟨_, rfl, ⟨_, h.cell (i := 0) rfl⟩, ⟨_, by rw [add_add]; exact h.cell (i := 1) rfl⟩⟩
  · exact ⟨_, rfl, ⟨_, h.cell (i := 2) rfl⟩, ⟨_, by rw [add_add]; exact h.cell (i := 3) rfl⟩⟩
theorem opRow3 {w : World} {b : Nat} {u1 u2 u3 : ByteArray} {z1 z2 z3 : Int} {T : TypeId} (h : Blk w b [.string u1, .int .i64 z1, .string u2, .int .i64 z2, .string u3, .int .i64 z3] T) : OpRow w (some (⟨b, 0, none⟩ : Addr)) 3 := by
  intro i hi
  have : i = 0 ∨ i = 1 ∨ i = 2 := by omega
  rcases this with rfl | rfl | rfl
  · exact ⟨_, rfl, ⟨_, h.cell (i := 0) rfl⟩, ⟨_, by rw [add_add]; exact h.cell (i := 1) rfl⟩⟩
  · exact ⟨_, rfl, ⟨_, h.cell (i := 2) rfl⟩, ⟨_, by rw [add_add]; exact h.cell (i := 3) rfl⟩⟩
  · exact ⟨_, rfl, ⟨_, h.cell (i := 4) rfl⟩, ⟨_, by rw [add_add]; exact h.cell (i := 5) rfl⟩⟩
theorem alloc_still (w : World) (o : Obj) : Fr (fun _ => False) w (w.alloc o) := Fr.newBlock _ _ _
end Go.Vc

namespace Go.Proofs.Ytjlkgedcpmoehaa
open Go Go.Vc
variable {K : PK} {ν : Nat → Prop} {w : World} {I E D : Int}

theorem opOf_c (level : Int) (hl0 : 0 ≤ level) (h : PS K ν w I E D) : Calls Try.prog 42 #[.pointer (some K.p), .int .i64 level] w
    (Ret fun v w' => ∃ z : Int, v = .int .i64 z ∧ (z ≠ 0 → I < (K.n : Int)) ∧ Fr (fun _ => False) w w') := by
  refine Sh.ref17_Parser_opOf_calls _ _ ?_
  unfold Sh.ref17_Parser_opOf
  simp only [imp_self, true_and]
  intro w1 e1 w2 e2 w3 e3 w4 e4 w5 e5 w6 e6 w7 e7 w8 e8
  have b1 : OpRow w1 (some (⟨w.heap.size, 0, none⟩ : Addr)) 2 := by rw [e1]; exact opRow2 (Blk.new w [.string _, .int .i64 _, .string _, .int .i64 _] 98)
  have b2 : OpRow w2 (some (⟨w1.heap.size, 0, none⟩ : Addr)) 1 := by rw [e2]; exact opRow1 (Blk.new w1 [.string _, .int .i64 _] 98)
  have b3 : OpRow w3 (some (⟨w2.heap.size, 0, none⟩ : Addr)) 2 := by rw [e3]; exact opRow2 (Blk.new w2 [.string _, .int .i64 _, .string _, .int .i64 _] 98)
  have b4 : OpRow w4 (some (⟨w3.heap.size, 0, none⟩ : Addr)) 1 := by rw [e4]; exact opRow1 (Blk.new w3 [.string _, .int .i64 _] 98)
  have b5 : OpRow w5 (some (⟨w4.heap.size, 0, none⟩ : Addr)) 2 := by rw [e5]; exact opRow2 (Blk.new w4 [.string _, .int .i64 _, .string _, .int .i64 _] 98)
  have b6 : OpRow w6 (some (⟨w5.heap.size, 0, none⟩ : Addr)) 3 := by rw [e6]; exact opRow3 (Blk.new w5 [.string _, .int .i64 _, .string _, .int .i64 _, .string _, .int .i64 _] 98)
  have b7 : OpRow w7 (some (⟨w6.heap.size, 0, none⟩ : Addr)) 3 := by rw [e7]; exact opRow3 (Blk.new w6 [.string _, .int .i64 _, .string _, .int .i64 _, .string _, .int .i64 _] 98)
  have f1 : Fr (fun _ => False) w w1 := by rw [e1]; exact alloc_still _ _
  have f2 : Fr (fun _ => False) w1 w2 := by rw [e2]; exact alloc_still _ _
  have f3 : Fr (fun _ => False) w2 w3 := by rw [e3]; exact alloc_still _ _
  have f4 : Fr (fun _ => False) w3 w4 := by rw [e4]; exact alloc_still _ _
  have f5 : Fr (fun _ => False) w4 w5 := by rw [e5]; exact alloc_still _ _
  have f6 : Fr (fun _ => False) w5 w6 := by rw [e6]; exact alloc_still _ _
  have f7 : Fr (fun _ => False) w6 w7 := by rw [e7]; exact alloc_still _ _
  have f8 : Fr (fun _ => False) w7 w8 := by rw [e8]; exact alloc_still _ _
  have t8 := Blk.new w7 [.slice none 0 0, .slice (some (⟨w.heap.size, 0, none⟩ : Addr)) 2 2, .slice (some (⟨w1.heap.size, 0, none⟩ : Addr)) 1 1, .slice none 0 0, .slice none 0 0, .slice (some (⟨w2.heap.size, 0, none⟩ : Addr)) 2 2, .slice (some (⟨w3.heap.size, 0, none⟩ : Addr)) 1 1, .slice (some (⟨w4.heap.size, 0, none⟩ : Addr)) 2 2, .slice (some (⟨w5.heap.size, 0, none⟩ : Addr)) 3 3, .slice (some (⟨w6.heap.size, 0, none⟩ : Addr)) 3 3] 99
  replace t8 : Blk w8 w7.heap.size [.slice none 0 0, .slice (some (⟨w.heap.size, 0, none⟩ : Addr)) 2 2, .slice (some (⟨w1.heap.size, 0, none⟩ : Addr)) 1 1, .slice none 0 0, .slice none 0 0, .slice (some (⟨w2.heap.size, 0, none⟩ : Addr)) 2 2, .slice (some (⟨w3.heap.size, 0, none⟩ : Addr)) 1 1, .slice (some (⟨w4.heap.size, 0, none⟩ : Addr)) 2 2, .slice (some (⟨w5.heap.size, 0, none⟩ : Addr)) 3 3, .slice (some (⟨w6.heap.size, 0, none⟩ : Addr)) 3 3] 99 := by rw [e8]; exact t8
  have f18 := ((((((f2.same f3).same f4).same f5).same f6).same f7).same f8)
  have key : level < 10 → ∃ (q : Option Addr) (ql qc : Nat), w8.cell? ((⟨w7.heap.size, 0, none⟩ : Addr).add (level.toNat * 1)) = some (.slice q ql qc) ∧ OpRow w8 q ql ∧ ql ≤ 3 := by
    intro hl
    have h10 : level = 0 ∨ level = 1 ∨ level = 2 ∨ level = 3 ∨ level = 4 ∨ level = 5 ∨ level = 6 ∨ level = 7 ∨ level = 8 ∨ level = 9 := by omega
    rcases h10 with rfl | rfl | rfl | rfl | rfl | rfl | rfl | rfl | rfl | rfl
    · exact ⟨_, _, _, t8.cell (i := 0) rfl, opRow0 _ _, by omega⟩
    · exact ⟨_, _, _, t8.cell (i := 1) rfl, b1.still f18, by omega⟩
    · exact ⟨_, _, _, t8.cell (i := 2) rfl, b2.still (((((f3.same f4).same f5).same f6).same f7).same f8), by omega⟩
    · exact ⟨_, _, _, t8.cell (i := 3) rfl, opRow0 _ _, by omega⟩
    · exact ⟨_, _, _, t8.cell (i := 4) rfl, opRow0 _ _, by omega⟩
    · exact ⟨_, _, _, t8.cell (i := 5) rfl, b3.still ((((f4.same f5).same f6).same f7).same f8), by omega⟩
    · exact ⟨_, _, _, t8.cell (i := 6) rfl, b4.still (((f5.same f6).same f7).same f8), by omega⟩
    · exact ⟨_, _, _, t8.cell (i := 7) rfl, b5.still ((f6.same f7).same f8), by omega⟩
    · exact ⟨_, _, _, t8.cell (i := 8) rfl, b6.still (f7.same f8), by omega⟩
    · exact ⟨_, _, _, t8.cell (i := 9) rfl, b7.still f8, by omega⟩
  have F8 := f1.same f18
  have h8 := h.still F8
  clear t8 b1 b2 b3 b4 b5 b6 b7 e1 e2 e3 e4 e5 e6 e7 e8
  refine ⟨fun i w' => 0 ≤ i ∧ i ≤ 3 ∧ Fr (fun _ => False) w8 w', fun i _ => 3 - i.toNat, ⟨by omega, by omega, Fr.refl _ _⟩, ?_⟩
  rintro i w9 ⟨i0, i1, hF⟩
  have h9 := h8.still hF
  refine ⟨fun hl => ⟨hl0, by simpa using hl⟩, fun hl => ⟨hl, ?_⟩, fun _ => ⟨0, rfl, fun h => absurd rfl h, F8.same hF⟩⟩
  have hl10 : level < 10 := by simpa using hl
  obtain ⟨q, ql, qc, hc, hrow, hq3⟩ := key hl10
  refine ⟨q, ql, qc, hF.cell hc fun h => h, hl, fun hlt => ?_, fun _ => ⟨0, rfl, fun h => absurd rfl h, F8.same hF⟩⟩
  simp only [decide_eq_true_eq] at hlt
  obtain ⟨a, ha, ⟨u, hu⟩, ⟨z, hz⟩⟩ := (hrow.still hF) i.toNat (by omega)
  refine ⟨⟨hl0, by simpa using hl⟩, q, ql, qc, hF.cell hc fun h => h, a, ha, ⟨i0, hlt⟩, u, hu, ?_⟩
  refine Calls.tell (is_c u h9) fun v w10 ⟨r, hv, hr, hf10⟩ => ?_
  subst hv
  have hF2 := hF.same hf10
  refine ⟨r, rfl, fun hn => ⟨⟨hl0, by simpa using hl⟩, q, ql, qc, hF2.cell hc fun h => h, a, ha, ⟨i0, hlt⟩, z, hf10.cell hz fun h => h, z, rfl, fun _ => hr hn, F8.same hF2⟩, fun _ => ?_⟩
  rw [wrap_i64 (by omega) (by omega)]
  exact ⟨⟨by omega, by omega, hF2⟩, by dsimp only; omega⟩
end Go.Proofs.Ytjlkgedcpmoehaa
