/-
  Contract: awake.
-/
import Derived.Test.YtjlkgedcpmoehaaCf
set_option linter.unusedVariables false
set_option linter.unusedSimpArgs false
set_option maxRecDepth 100000
namespace Go.Proofs.Ytjlkgedcpmoehaa
open Go Go.Vc

theorem conjNil_c (w : World) : Calls Try.prog 7 #[.pointer none] w (Ret fun v w' => v = .slice none 0 0 ∧ w' = w) := by
  refine Sh.plan_Conjuncts_o_calls none ?_
  unfold Sh.plan_Conjuncts_o
  exact ⟨fun _ => ⟨rfl, rfl⟩, fun h => by cases h⟩

def ndA : Nd := .mk 4 0 ⟨#[97]⟩ ⟨#[]⟩ 0 []
def ndB : Nd := .mk 1 0 ⟨#[]⟩ ⟨#[]⟩ 0 []

theorem awake_c (w : World) : Calls Try.prog 5 #[] w (Ret fun v w' => v = .bool true ∧ Fr (fun _ => False) w w') := by
  refine Sh.law22_awake_calls ?_
  unfold Sh.law22_awake
  simp only [imp_self, true_and]
  intro ba hba bb hbb hne w1 hf1 hlb hla
  have hf1' : Fr (fun _ => False) w w1 := hf1.mono fun i hi h => by omega
  rintro w2 rfl w3 rfl
  have hb2 : Blk (w1.alloc (.cells #[.int .i64 (4 : Int), .int .i64 (0 : Int), .string (⟨#[97]⟩ : ByteArray), .string (⟨#[]⟩ : ByteArray), .int .i64 (0 : Int), .slice none 0 0, .int .i64 (1 : Int), .int .i64 (0 : Int), .string (⟨#[]⟩ : ByteArray), .string (⟨#[]⟩ : ByteArray), .int .i64 (0 : Int), .slice none 0 0] 24)) w1.heap.size
    [.int .i64 (4 : Int), .int .i64 (0 : Int), .string (⟨#[97]⟩ : ByteArray), .string (⟨#[]⟩ : ByteArray), .int .i64 (0 : Int), .slice none 0 0, .int .i64 (1 : Int), .int .i64 (0 : Int), .string (⟨#[]⟩ : ByteArray), .string (⟨#[]⟩ : ByteArray), .int .i64 (0 : Int), .slice none 0 0] 24 := Blk.new w1 _ 24
  have hf2 := Fr.newBlock (fun _ => False) w1 (.cells #[.int .i64 (4 : Int), .int .i64 (0 : Int), .string (⟨#[97]⟩ : ByteArray), .string (⟨#[]⟩ : ByteArray), .int .i64 (0 : Int), .slice none 0 0, .int .i64 (1 : Int), .int .i64 (0 : Int), .string (⟨#[]⟩ : ByteArray), .string (⟨#[]⟩ : ByteArray), .int .i64 (0 : Int), .slice none 0 0] 24)
  have hz2 := alloc_size w1 (.cells #[.int .i64 (4 : Int), .int .i64 (0 : Int), .string (⟨#[97]⟩ : ByteArray), .string (⟨#[]⟩ : ByteArray), .int .i64 (0 : Int), .slice none 0 0, .int .i64 (1 : Int), .int .i64 (0 : Int), .string (⟨#[]⟩ : ByteArray), .string (⟨#[]⟩ : ByteArray), .int .i64 (0 : Int), .slice none 0 0] 24)
  generalize w1.alloc (.cells #[.int .i64 (4 : Int), .int .i64 (0 : Int), .string (⟨#[97]⟩ : ByteArray), .string (⟨#[]⟩ : ByteArray), .int .i64 (0 : Int), .slice none 0 0, .int .i64 (1 : Int), .int .i64 (0 : Int), .string (⟨#[]⟩ : ByteArray), .string (⟨#[]⟩ : ByteArray), .int .i64 (0 : Int), .slice none 0 0] 24) = w2 at *
  have hbk := Blk.new w2 [.int .i64 (0 : Int), .int .i64 (0 : Int), .string (⟨#[]⟩ : ByteArray), .string (⟨#[]⟩ : ByteArray), .int .i64 (0 : Int), .slice none 0 0] 24
  have hf3 := Fr.newBlock (fun _ => False) w2 (.cells #[.int .i64 (0 : Int), .int .i64 (0 : Int), .string (⟨#[]⟩ : ByteArray), .string (⟨#[]⟩ : ByteArray), .int .i64 (0 : Int), .slice none 0 0] 24)
  refine ⟨by show w2.heap.size ≠ bb; omega, by show w2.heap.size ≠ ba; omega, ?_⟩
  refine store6 hbk rfl (v5 := .slice (some (⟨w1.heap.size, 0, none⟩ : Addr)) 2 2) fun w4 hw4 hbk4 hf4 => ?_
  rw [← hw4]
  have hb4 := (hb2.frame hf3 fun h => h).frame hf4 fun h => by omega
  have hall : Fr (fun _ => False) w w4 := ((hf1'.same hf2).same hf3).trans hf4 (fun _ _ h => h) fun i hi h => by have := hf1'.size; omega
  have hnA : NdV (fun k => k = bb ∨ k = ba) w4 ndA 4 0 ⟨#[97]⟩ ⟨#[]⟩ 0 none 0 0 := ⟨Nat.le_refl _, [], rfl, NdS.nil _ _ _⟩
  have hnB : NdV (fun k => k = bb ∨ k = ba) w4 ndB 1 0 ⟨#[]⟩ ⟨#[]⟩ 0 none 0 0 := ⟨Nat.le_refl _, [], rfl, NdS.nil _ _ _⟩
  have hN : NdR (fun k => k = bb ∨ k = ba) w4 (.mk 6 18 ⟨#[]⟩ ⟨#[]⟩ 0 [ndA, ndB]) ⟨w2.heap.size, 0, none⟩ := by
    refine NdR.mk' (cap := 2) ?_ (fun h => by simp at h; omega) hbk4.cell0 (hbk4.cell (i := 1) rfl) (hbk4.cell (i := 2) rfl) (hbk4.cell (i := 3) rfl) (hbk4.cell (i := 4) rfl) (hbk4.cell (i := 5) rfl)
    refine NdV.of_row (l := [ndA, ndB]) (a := ⟨w1.heap.size, 0, none⟩) (fun h => by simp at h; omega) ?_ fun j u hu => hb4.cell hu
    exact ⟨_, _, _, _, _, _, _, _, [.int .i64 (1 : Int), .int .i64 (0 : Int), .string (⟨#[]⟩ : ByteArray), .string (⟨#[]⟩ : ByteArray), .int .i64 (0 : Int), .slice none 0 0], rfl, hnA, _, _, _, _, _, _, _, _, [], rfl, hnB, rfl⟩
  refine Calls.tell (conjs_c _ _ (Nat.le_refl _) _ _ _ (fun i h => by have := hbk4.lt; omega) hN (by simp [sz, szL, ndA, ndB])) fun v w5 ⟨p, len, cap, hv, hs, _, _, hf5⟩ => ?_
  subst hv
  have hcj : conjF (.mk 6 18 ⟨#[]⟩ ⟨#[]⟩ 0 [ndA, ndB]) = [ndA, ndB] := by
    rw [conjF_and, ndA, ndB, conjF_other (by simp), conjF_other (by simp)]; rfl
  rw [hcj] at hs
  have hlen : len = 2 := hs.1
  subst hlen
  refine ⟨p, 2, cap, rfl, fun h => hf5.keep _ h fun h => h, fun h => hf5.keep _ h fun h => h, ?_⟩
  intro w6 hf6 hlb6 hla6
  have hw4s := hall.size
  have hf1s := hf1'.size
  have hf56 : Fr (fun _ => False) w w6 := (hall.same hf5).trans hf6 (fun _ _ h => h) fun i hi h => by omega
  have hs6 : NdS (fun k => k = bb ∨ k = ba) w6 [ndA, ndB] p 2 := hs.frame hf6 fun _ _ h => h
  obtain ⟨a, hpa, hRA⟩ := hs6.get (j := 0) (x := ndA) rfl
  subst hpa
  refine ⟨a, fun _ => ⟨rfl, by omega, by omega⟩, fun _ => ⟨by simp, hRA.load fun k o s t n q ql qc hvA => ⟨by simp, ?_⟩⟩, fun h => by simp at h⟩
  refine Calls.tell (sameNode ndA _ w6 ndA _ _ _ _ _ _ _ _ _ _ _ _ _ _ _ 0 hvA ⟨Nat.le_refl _, [], rfl, NdS.nil _ _ _⟩ (.inl (by simp [ndA, sz, szL]))) fun v w7 ⟨r, hr, hrt, hf7⟩ => ?_
  subst hr
  refine ⟨r, rfl, fun h => hf7.keep _ h fun h => h, fun h => hf7.keep _ h fun h => h, hf7, fun _ => ?_, fun h => by rw [hrt.2 rfl] at h; cases h⟩
  refine Calls.tell (conjNil_c w7) fun v w8 ⟨hv, hw⟩ => ?_
  subst hv hw
  refine ⟨none, 0, 0, rfl, fun _ => rfl, fun _ => rfl, hf7, fun _ => ?_, fun h => by simp at h⟩
  refine Calls.tell (joinNil_c w8) fun v w9 ⟨hv, hw⟩ => ?_
  subst hv hw
  refine ⟨none, rfl, fun _ => rfl, fun _ => rfl, hf7, fun _ => ⟨rfl, ?_⟩, fun h => by cases h⟩
  refine Calls.tell (empty_c _ _ w9) fun v w10 ⟨hv, hf10⟩ => ?_
  subst hv
  refine ⟨_, rfl, fun h => hf10.keep _ h fun h => h, fun h => hf10.keep _ h fun h => h, hf7.same hf10, ?_, (hf56.same hf7).same hf10⟩
  rw [show Op.bytesLess (⟨#[97]⟩ : ByteArray).toList (⟨#[98]⟩ : ByteArray).toList = true from by kernel_rfl]
  rfl
end Go.Proofs.Ytjlkgedcpmoehaa
