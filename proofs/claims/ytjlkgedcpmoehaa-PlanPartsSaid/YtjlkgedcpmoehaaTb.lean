/-
  Contracts: letters, words, signs.
-/
import Derived.Test.YtjlkgedcpmoehaaTa
import Derived.Laws.IdiomStrings
import Derived.Lib.ConvBytes
set_option linter.unusedVariables false
set_option linter.unusedSimpArgs false
set_option maxRecDepth 100000
namespace Go.Proofs.Ytjlkgedcpmoehaa
open Go Go.Vc

def OneB (w : World) : Value → World → Prop := fun v w' => ∃ r : Bool, v = .bool r ∧ Fr (fun _ => False) w w'
def OneS (w : World) : Value → World → Prop := fun v w' => ∃ u : ByteArray, v = .string u ∧ Fr (fun _ => False) w w'

def digitF (c : Int) : Bool := (decide (c ≥ (48 : Int))) && (decide (c ≤ (57 : Int)))
def letterF (c : Int) : Bool := if (((decide (c ≥ (97 : Int))) && (decide (c ≤ (122 : Int)))) || ((decide (c ≥ (65 : Int))) && (decide (c ≤ (90 : Int)))) || (c == (95 : Int))) = true then true else digitF c

theorem digit_c (c : Int) (w : World) : Calls Try.prog 44 #[.int .u8 c] w (Ret fun v w' => v = .bool (digitF c) ∧ w' = w) := by
  refine Sh.ref17_digit_calls _ ?_
  unfold Sh.ref17_digit
  exact ⟨fun h => h, fun h => h, rfl, rfl⟩

theorem letter_c (c : Int) (w : World) : Calls Try.prog 46 #[.int .u8 c] w (Ret fun v w' => v = .bool (letterF c) ∧ w' = w) := by
  refine Sh.ref17_letter_calls _ ?_
  unfold Sh.ref17_letter
  simp only [imp_self, true_and]
  refine ⟨by intros; simp_all <;> omega, by intros; simp_all <;> omega, by intros; simp_all <;> omega, fun h => ⟨?_, trivial⟩, fun h => ⟨by rw [h]; rfl, ?_⟩⟩
  · rw [letterF, if_pos h]
  · refine Calls.tell (digit_c _ _) fun v w' ⟨h1, h2⟩ => ?_
    subst h1
    exact ⟨_, rfl, by rw [letterF, if_neg (by rw [h]; simp)], h2⟩

def wordL : List ByteArray := [⟨#[65, 76, 76]⟩, ⟨#[65, 78, 68]⟩, ⟨#[65, 83]⟩, ⟨#[65, 83, 67]⟩, ⟨#[66, 65, 67, 75]⟩, ⟨#[66, 69, 84, 87, 69, 69, 78]⟩, ⟨#[66, 79, 79, 76]⟩, ⟨#[66, 89]⟩, ⟨#[67, 65, 83, 84]⟩, ⟨#[67, 79, 76, 76, 65, 84, 69]⟩, ⟨#[67, 79, 76, 76, 65, 84, 73, 79, 78]⟩, ⟨#[67, 82, 69, 65, 84, 69]⟩, ⟨#[68, 69, 76, 69, 84, 69]⟩, ⟨#[68, 69, 83, 67]⟩, ⟨#[68, 73, 83, 84, 73, 78, 67, 84]⟩, ⟨#[68, 82, 79, 80]⟩, ⟨#[69, 83, 67, 65, 80, 69]⟩, ⟨#[70, 65, 76, 83, 69]⟩, ⟨#[70, 82, 79, 77]⟩, ⟨#[71, 82, 79, 85, 80]⟩, ⟨#[72, 65, 86, 73, 78, 71]⟩, ⟨#[73, 78]⟩, ⟨#[73, 78, 68, 69, 88]⟩, ⟨#[73, 78, 83, 69, 82, 84]⟩, ⟨#[73, 78, 84]⟩, ⟨#[73, 78, 84, 79]⟩, ⟨#[73, 83]⟩, ⟨#[74, 79, 73, 78]⟩, ⟨#[76, 69, 86, 69, 76]⟩, ⟨#[76, 73, 75, 69]⟩, ⟨#[76, 73, 77, 73, 84]⟩, ⟨#[78, 79, 84]⟩, ⟨#[78, 85, 76, 76]⟩, ⟨#[79, 70, 70, 83, 69, 84]⟩, ⟨#[79, 78]⟩, ⟨#[79, 82]⟩, ⟨#[79, 82, 68, 69, 82]⟩, ⟨#[83, 69, 76, 69, 67, 84]⟩, ⟨#[83, 69, 84]⟩, ⟨#[83, 72, 73, 70, 84]⟩, ⟨#[84, 65, 66, 76, 69]⟩, ⟨#[84, 69, 88, 84]⟩, ⟨#[84, 82, 85, 69]⟩, ⟨#[85, 78, 73, 81, 85, 69]⟩, ⟨#[85, 80, 68, 65, 84, 69]⟩, ⟨#[86, 65, 76, 85, 69, 83]⟩, ⟨#[87, 72, 69, 82, 69]⟩, ⟨#[88, 79, 82]⟩]

theorem wordsL_c (w : World) : Calls Try.prog 59 #[] w (Ret fun v w' => ∃ b, v = .slice (some (⟨b, 0, none⟩ : Addr)) 48 48 ∧ Blk w' b (wordL.map .string) 9 ∧ Fr (fun _ => False) w w') := by
  refine Sh.ref17_Words_calls ?_
  unfold Sh.ref17_Words
  rintro w1 rfl
  exact ⟨_, rfl, Blk.new w (wordL.map .string) 9, Fr.newBlock _ _ _⟩

theorem isWord_c (s : ByteArray) (w : World) : Calls Try.prog 48 #[.string s] w (Ret (OneB w)) := by
  refine Sh.ref17_isWord_calls _ ?_
  unfold Sh.ref17_isWord
  refine Calls.tell (wordsL_c _) fun v w1 ⟨b, hv, hbk, hf1⟩ => ?_
  subst hv
  refine ⟨_, _, _, rfl, fun i w' => 0 ≤ i ∧ i ≤ 48 ∧ Fr (fun _ => False) w1 w', fun i _ => 48 - i.toNat, ⟨by omega, by omega, Fr.refl _ _⟩, ?_⟩
  rintro i w2 ⟨h0, h1, hF⟩
  refine ⟨fun hlt => ?_, fun _ => ⟨_, rfl, hf1.same hF⟩⟩
  simp at hlt
  have hb2 := hbk.frame hF fun h => h
  have hl : wordL.length = 48 := rfl
  refine ⟨_, rfl, ⟨h0, by simpa using hlt⟩, wordL[i.toNat]'(by omega), ?_, fun _ => ⟨_, rfl, hf1.same hF⟩, fun _ => ?_⟩
  · rw [Nat.mul_one]
    exact hb2.cell (by rw [List.getElem?_map, List.getElem?_eq_getElem (by omega)]; rfl)
  · rw [wrap_i64 (by omega) (by omega)]
    exact ⟨⟨by omega, by omega, hF⟩, by dsimp only; omega⟩

theorem op_c (s : ByteArray) (hs : 1 ≤ s.size) (w : World) : Calls Try.prog 51 #[.string s] w (Ret fun v w' => ∃ u : ByteArray, v = .string u ∧ u.size ≤ s.size ∧ Fr (fun _ => False) w w') := by
  refine Sh.ref17_op_calls _ ?_
  unfold Sh.ref17_op
  have hc := getElem?_pos s (0 : Int).toNat (by simp; omega)
  have e1 : (s.extract 0 (1 : Int).toNat).size ≤ s.size := by rw [ByteArray.size_extract]; omega
  have e2 : (s.extract 0 (2 : Int).toNat).size ≤ s.size := by rw [ByteArray.size_extract]; omega
  have e0 : (⟨#[]⟩ : ByteArray).size ≤ s.size := by rw [bsz_lit]; simp
  have h1 : (0 : Int) ≤ 1 ∧ (1 : Int) ≤ (s.size : Int) := ⟨by omega, by omega⟩
  refine ⟨fun h => ?_, fun h => ?_⟩
  · have h2 : (0 : Int) ≤ 2 ∧ (2 : Int) ≤ (s.size : Int) := ⟨by omega, by simpa using h⟩
    refine ⟨h2, ?_⟩
    repeat' (first | exact ⟨_, rfl, e0, Fr.refl _ _⟩ | exact ⟨h1, _, rfl, e1, Fr.refl _ _⟩ | exact ⟨h2, _, rfl, e2, Fr.refl _ _⟩ | refine ⟨fun _ => ?_, fun _ => ?_⟩ | refine ⟨_, ⟨Int.le_refl _, hc⟩, ?_⟩)
  · repeat' (first | exact ⟨_, rfl, e0, Fr.refl _ _⟩ | exact ⟨h1, _, rfl, e1, Fr.refl _ _⟩ | refine ⟨fun _ => ?_, fun _ => ?_⟩ | refine ⟨_, ⟨Int.le_refl _, hc⟩, ?_⟩)

theorem text_c (s : ByteArray) (hs : s.size ≤ 1000000) (a : Int) (h0 : 0 ≤ a) (h1 : a < (s.size : Int)) (w : World) : Calls Try.prog 50 #[.string s, .int .i64 a] w
    (Ret fun v w' => ∃ (u : ByteArray) (e : Int) (r : Bool), v = .tuple #[.string u, .int .i64 e, .bool r] ∧ (r = true → a < e ∧ e ≤ (s.size : Int)) ∧ Fr (fun _ => False) w w') := by
  refine Sh.ref17_text_calls _ _ ?_
  unfold Sh.ref17_text
  simp only [imp_self, true_and]
  rw [wrap_i64 (x := a + 1) (by omega) (by omega)]
  refine ⟨fun out i w' => a < i ∧ i ≤ (s.size : Int) ∧ (out.size : Int) ≤ i ∧ Fr (fun _ => False) w w', fun _ i _ => s.size - i.toNat, ⟨by omega, by omega, by rw [bsz_lit]; simp; omega, Fr.refl _ _⟩, ?_⟩
  rintro out i w1 ⟨i0, i1, ho, hF⟩
  refine ⟨fun hlt => ?_, fun _ => ⟨_, _, _, rfl, (fun h => by cases h), hF⟩⟩
  simp only [decide_eq_true_eq] at hlt
  have hc := getElem?_pos s i.toNat (by omega)
  rw [wrap_i64 (x := i + 1) (by omega) (by omega)]
  have he : (s.extract i.toNat (i + 1).toNat).size = 1 := by rw [ByteArray.size_extract]; omega
  have h39 : (⟨#[39]⟩ : ByteArray).size = 1 := rfl
  refine ⟨_, ⟨by omega, hc⟩, fun _ => ⟨⟨by omega, by omega, by omega⟩, by rw [he]; omega, ⟨by omega, by omega, by rw [ByteArray.size_append, he]; omega, hF⟩, by dsimp only; omega⟩, fun _ => ?_⟩
  by_cases hl : i + 1 < (s.size : Int)
  · have hc2 := getElem?_pos s (i + 1).toNat (by omega)
    refine ⟨_, fun _ => ⟨by omega, hc2⟩, fun _ => ⟨by rw [h39]; omega, ?_⟩, fun _ => ⟨_, _, _, rfl, fun _ => ⟨by omega, by omega⟩, hF⟩⟩
    rw [wrap_i64 (x := i + 1 + 1) (by omega) (by omega)]
    exact ⟨⟨by omega, by omega, by rw [ByteArray.size_append, h39]; omega, hF⟩, by dsimp only; omega⟩
  · exact ⟨0, fun h => by simp at h <;> omega, fun h => by simp at h <;> omega, fun _ => ⟨_, _, _, rfl, fun _ => ⟨by omega, by omega⟩, hF⟩⟩
end Go.Proofs.Ytjlkgedcpmoehaa
