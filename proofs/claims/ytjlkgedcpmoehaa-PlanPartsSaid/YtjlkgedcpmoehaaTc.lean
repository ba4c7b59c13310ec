/-
  Contracts: great and small letters.
-/
import Derived.Test.YtjlkgedcpmoehaaTb
set_option linter.unusedVariables false
set_option linter.unusedSimpArgs false
set_option maxRecDepth 100000
namespace Go.Vc

/-- A block of bytes, the first of them there. -/
def BytesAt (w : World) (g len : Nat) : Prop := ∃ (cs : Array Value) (e : TypeId) (m : Nat), w.heap[g]? = some (.cells cs e (m, m + 1)) ∧ cs.size = m ∧ len ≤ m ∧ ∀ j, j < len → ∃ n : Int, 0 ≤ n ∧ n ≤ 255 ∧ cs[j]? = some (.int .u8 n)

theorem BytesAt.cell {w : World} {g len : Nat} (h : BytesAt w g len) {j : Nat} (hj : j < len) : ∃ n : Int, 0 ≤ n ∧ n ≤ 255 ∧ w.cell? ((⟨g, 0, none⟩ : Addr).add j) = some (.int .u8 n) := by
  obtain ⟨cs, e, m, h1, h2, h3, h4⟩ := h
  obtain ⟨n, h5, h6, h7⟩ := h4 j hj
  refine ⟨n, h5, h6, ?_⟩
  rw [addr_add, Nat.zero_add]
  simp [World.cell?, h1, h7]

theorem BytesAt.nofroz {w : World} {g len : Nat} (h : BytesAt w g len) {j : Nat} (hj : j < len) : w.frozen? ((⟨g, 0, none⟩ : Addr).add j) = false := by
  obtain ⟨cs, e, m, h1, h2, h3, h4⟩ := h
  rw [addr_add, Nat.zero_add]
  simp [World.frozen?, h1]
  omega

theorem BytesAt.set {w : World} {g len : Nat} (h : BytesAt w g len) (j : Nat) {n : Int} (h0 : 0 ≤ n) (h1 : n ≤ 255) : BytesAt (w.setCell ((⟨g, 0, none⟩ : Addr).add j) (.int .u8 n)) g len := by
  obtain ⟨cs, e, m, h2, h3, h4, h5⟩ := h
  refine ⟨cs.setIfInBounds j (.int .u8 n), e, m, ?_, by simpa using h3, h4, fun i hi => ?_⟩
  · rw [addr_add, Nat.zero_add]
    simp [World.setCell, Array.getElem?_modify, h2]
  · by_cases hij : j = i
    · subst hij
      exact ⟨n, h0, h1, by rw [Array.getElem?_setIfInBounds]; simp; omega⟩
    · obtain ⟨k, h6, h7, h8⟩ := h5 i hi
      exact ⟨k, h6, h7, by rw [Array.getElem?_setIfInBounds]; simpa [hij] using h8⟩

theorem BytesAt.new (w : World) (e : TypeId) (s : ByteArray) : BytesAt (Lib.bytesWorld w e s) w.heap.size s.size := by
  refine ⟨_, e, _, Lib.bytesWorld_at_new w e s, rfl, ?_, fun j hj => ⟨((s.data.toList.getD j 0).toNat : Int), by omega, ?_, ?_⟩⟩
  · simp [Lib.bytesCells]
  · have := (s.data.toList.getD j 0).toNat_lt
    omega
  · have := Lib.bytesWorld_cell w e s j hj
    simpa [World.cell?, Lib.bytesWorld_at_new] using this

theorem bytes_fr (w : World) (e : TypeId) (s : ByteArray) : Fr (fun _ => False) w (Lib.bytesWorld w e s) := by
  refine ⟨?_, ?_, ?_, by rw [Lib.bytesWorld_size]; omega, fun k hk _ => Lib.bytesWorld_at_old w e s k hk⟩ <;> (unfold Lib.bytesWorld World.freeze; rw [if_neg (by decide)]; rfl)

theorem BytesAt.back {P : Program} {w : World} {g len : Nat} (h : BytesAt w g len) (cap : Nat) {src dst e : TypeId} (hs : P.underlying src = some (.slice e)) (he : P.underlying e = some (.int .u8)) (hd : P.underlying dst = some .string) :
    ∃ u, (convert src dst (.slice (some (⟨g, 0, none⟩ : Addr)) len cap)).run P w = .ok (.string u) w := by
  obtain ⟨l, hl, hc⟩ : ∃ l : List UInt8, l.length = len ∧ ∀ j (hj : j < l.length), w.cell? ((⟨g, 0, none⟩ : Addr).add j) = some (.int .u8 (l[j].toNat : Int)) := by
    have key : ∀ k, k ≤ len → ∃ l : List UInt8, l.length = k ∧ ∀ j (hj : j < l.length), w.cell? ((⟨g, 0, none⟩ : Addr).add j) = some (.int .u8 (l[j].toNat : Int)) := by
      intro k
      induction k with
      | zero => exact fun _ => ⟨[], rfl, fun j hj => by simp at hj⟩
      | succ k ih =>
        intro hk
        obtain ⟨l, h1, h2⟩ := ih (by omega)
        obtain ⟨n, h3, h4, h5⟩ := h.cell (j := k) (by omega)
        refine ⟨l ++ [UInt8.ofNat n.toNat], by simp [h1], fun j hj => ?_⟩
        by_cases hjk : j < l.length
        · rw [List.getElem_append_left hjk]
          exact h2 j hjk
        · have hj' : j = k := by simp at hj; omega
          subst hj'
          rw [List.getElem_append_right (by omega)]
          simp only [h1, Nat.sub_self, List.getElem_cons_zero]
          rw [h5]
          congr 2
          simp
          omega
    exact key len (Nat.le_refl _)
  subst hl
  exact ⟨_, run_convert_bytes_back w src dst e _ cap l hs he hd hc⟩
end Go.Vc

namespace Go.Proofs.Ytjlkgedcpmoehaa
open Go Go.Vc

theorem und9 : Try.prog.underlying 9 = some .string := by kernel_rfl
theorem und102 : Try.prog.underlying 102 = some (.slice 5) := by kernel_rfl
theorem und5 : Try.prog.underlying 5 = some (.int .u8) := by kernel_rfl

theorem u8_wrap (x : Int) : 0 ≤ IntKind.u8.wrap x ∧ IntKind.u8.wrap x ≤ 255 := by
  simp only [IntKind.wrap, IntKind.bits, IntKind.signed]
  simp
  omega

theorem upper_c (s : ByteArray) (hs : s.size ≤ 1000000) (w : World) : Calls Try.prog 47 #[.string s] w (Ret (OneS w)) := by
  refine Sh.ref17_upper_calls _ ?_
  unfold Sh.ref17_upper
  simp only [imp_self, true_and]
  refine ⟨_, _, _, _, Lib.run_convert_string_bytes w 9 102 5 s und9 und102 und5, fun i w' => 0 ≤ i ∧ i ≤ (s.size : Int) ∧ Fr (fun _ => False) w w' ∧ BytesAt w' w.heap.size s.size, fun i _ => s.size - i.toNat,
    ⟨by omega, by omega, bytes_fr w 5 s, BytesAt.new w 5 s⟩, ?_⟩
  rintro i w1 ⟨h0, h1, hF, hB⟩
  refine ⟨fun hlt => ?_, fun hge => ?_⟩
  · simp only [decide_eq_true_eq] at hlt
    obtain ⟨n, n0, n1, hc⟩ := hB.cell (j := i.toNat) (by omega)
    have hfz := hB.nofroz (j := i.toNat) (by omega)
    rw [← Nat.mul_one i.toNat] at hc hfz
    refine ⟨_, rfl, ⟨h0, hlt⟩, n, hc, ⟨w.heap.size, 0, none⟩, fun _ => ⟨rfl, h0, hlt⟩, fun h97 => ⟨h97, n, hc, fun _ => ⟨_, rfl, ⟨h0, hlt⟩, n, hc, _, rfl, ⟨h0, hlt⟩, by rw [hc]; rfl, hfz, ?_⟩, fun _ => ?_⟩, fun _ => ?_⟩
    · have hB := hB.set (i.toNat * 1) (u8_wrap (n - 32)).1 (u8_wrap (n - 32)).2
      have hF := hF.late (set_fr w1 w.heap.size (i.toNat * 1) (.int .u8 (IntKind.u8.wrap (n - 32)))) fun i hi h => by omega
      rw [wrap_i64 (by omega) (by omega)]
      exact ⟨⟨by omega, by omega, hF, hB⟩, by dsimp only; omega⟩
    · rw [wrap_i64 (by omega) (by omega)]
      exact ⟨⟨by omega, by omega, hF, hB⟩, by dsimp only; omega⟩
    · rw [wrap_i64 (by omega) (by omega)]
      exact ⟨⟨by omega, by omega, hF, hB⟩, by dsimp only; omega⟩
  · obtain ⟨u, hu⟩ := hB.back (P := Try.prog) (grownCap w s.size 0 5) und102 und5 und9
    exact ⟨u, w1, hu, u, rfl, hF⟩

theorem lower_c (s : ByteArray) (hs : s.size ≤ 1000000) (w : World) : Calls Try.prog 49 #[.string s] w (Ret (OneS w)) := by
  refine Sh.ref17_lower_calls _ ?_
  unfold Sh.ref17_lower
  simp only [imp_self, true_and]
  refine ⟨_, _, _, _, Lib.run_convert_string_bytes w 9 102 5 s und9 und102 und5, fun i w' => 0 ≤ i ∧ i ≤ (s.size : Int) ∧ Fr (fun _ => False) w w' ∧ BytesAt w' w.heap.size s.size, fun i _ => s.size - i.toNat,
    ⟨by omega, by omega, bytes_fr w 5 s, BytesAt.new w 5 s⟩, ?_⟩
  rintro i w1 ⟨h0, h1, hF, hB⟩
  refine ⟨fun hlt => ?_, fun hge => ?_⟩
  · simp only [decide_eq_true_eq] at hlt
    obtain ⟨n, n0, n1, hc⟩ := hB.cell (j := i.toNat) (by omega)
    have hfz := hB.nofroz (j := i.toNat) (by omega)
    rw [← Nat.mul_one i.toNat] at hc hfz
    refine ⟨_, rfl, ⟨h0, hlt⟩, n, hc, ⟨w.heap.size, 0, none⟩, fun _ => ⟨rfl, h0, hlt⟩, fun h97 => ⟨h97, n, hc, fun _ => ⟨_, rfl, ⟨h0, hlt⟩, n, hc, _, rfl, ⟨h0, hlt⟩, by rw [hc]; rfl, hfz, ?_⟩, fun _ => ?_⟩, fun _ => ?_⟩
    · have hB := hB.set (i.toNat * 1) (u8_wrap (n + 32)).1 (u8_wrap (n + 32)).2
      have hF := hF.late (set_fr w1 w.heap.size (i.toNat * 1) (.int .u8 (IntKind.u8.wrap (n + 32)))) fun i hi h => by omega
      rw [wrap_i64 (by omega) (by omega)]
      exact ⟨⟨by omega, by omega, hF, hB⟩, by dsimp only; omega⟩
    · rw [wrap_i64 (by omega) (by omega)]
      exact ⟨⟨by omega, by omega, hF, hB⟩, by dsimp only; omega⟩
    · rw [wrap_i64 (by omega) (by omega)]
      exact ⟨⟨by omega, by omega, hF, hB⟩, by dsimp only; omega⟩
  · obtain ⟨u, hu⟩ := hB.back (P := Try.prog) (grownCap w s.size 0 5) und102 und5 und9
    exact ⟨u, w1, hu, u, rfl, hF⟩
end Go.Proofs.Ytjlkgedcpmoehaa
