/-
  Contracts: numbers read.
-/
import Derived.Test.YtjlkgedcpmoehaaWb
import Derived.Test.YtjlkgedcpmoehaaShT
set_option linter.unusedVariables false
set_option linter.unusedSimpArgs false
set_option maxRecDepth 100000
namespace Go.Proofs.Ytjlkgedcpmoehaa
open Go Go.Vc

def Two (w : World) : Value → World → Prop := fun v w' => ∃ a b : Int, v = .tuple #[.int .i64 a, .int .i64 b] ∧ Fr (fun _ => False) w w'

theorem sub_c (a b : Int) (w : World) : Calls Try.prog 61 #[.int .i64 a, .int .i64 b] w (Ret (Two w)) := by
  refine Sh.ref1_Sub_calls _ _ ?_
  unfold Sh.ref1_Sub
  simp only [imp_self, true_and]
  refine ⟨by intros; simp_all <;> omega, by intros; simp_all <;> omega, fun _ => ⟨_, _, rfl, Fr.refl _ _⟩, fun _ => ⟨_, _, rfl, Fr.refl _ _⟩⟩

theorem add_c (a b : Int) (w : World) : Calls Try.prog 58 #[.int .i64 a, .int .i64 b] w (Ret (Two w)) := by
  refine Sh.ref1_Add_calls _ _ ?_
  unfold Sh.ref1_Add
  simp only [imp_self, true_and]
  refine ⟨by intros; simp_all <;> omega, by intros; simp_all <;> omega, fun _ => ⟨_, _, rfl, Fr.refl _ _⟩, fun _ => ⟨_, _, rfl, Fr.refl _ _⟩⟩

theorem neg_c (a : Int) (w : World) : Calls Try.prog 60 #[.int .i64 a] w (Ret (Two w)) := by
  refine Sh.ref1_Neg_calls _ ?_
  unfold Sh.ref1_Neg
  refine Calls.tell (sub_c _ _ _) fun v w2 ⟨m, e, hv, hf2⟩ => ?_
  subst hv
  exact ⟨m, e, rfl, _, _, rfl, hf2⟩

theorem mul_c (a b : Int) (w : World) : Calls Try.prog 57 #[.int .i64 a, .int .i64 b] w (Ret (Two w)) := by
  refine Sh.ref1_Mul_calls _ _ ?_
  unfold Sh.ref1_Mul
  simp only [imp_self, true_and]
  refine ⟨by intros; simp_all, fun _ => ⟨_, _, rfl, Fr.refl _ _⟩, fun h0 => ⟨fun _ => ?_, fun _ => ⟨fun _ => ?_, fun _ => ⟨?_, fun _ => ⟨_, _, rfl, Fr.refl _ _⟩, fun _ => ⟨_, _, rfl, Fr.refl _ _⟩⟩⟩⟩⟩
  · refine Calls.tell (neg_c _ _) fun v w2 ⟨m, e, hv, hf2⟩ => ?_
    subst hv
    exact ⟨m, e, rfl, _, _, rfl, hf2⟩
  · refine Calls.tell (neg_c _ _) fun v w2 ⟨m, e, hv, hf2⟩ => ?_
    subst hv
    exact ⟨m, e, rfl, _, _, rfl, hf2⟩
  · simp at h0; exact h0.2

theorem parse_c (s : ByteArray) (hs : s.size ≤ 1000000) (w : World) : Calls Try.prog 45 #[.string s] w (Ret (Two w)) := by
  refine Sh.ref1_Parse_calls _ ?_
  unfold Sh.ref1_Parse
  simp only [imp_self, true_and]
  by_cases h0 : 0 < s.size
  · refine ⟨s[(0 : Int).toNat]'h0, fun _ => ⟨by omega, getElem?_pos s (0 : Int).toNat h0⟩, fun _ => ⟨⟨by omega, by omega⟩, ?_⟩, fun _ => ?_⟩
    · have hT : (s.extract (1 : Int).toNat s.size).size ≤ 1000000 := by rw [ByteArray.size_extract]; omega
      generalize s.extract (1 : Int).toNat s.size = T at *
      refine ⟨fun i w' => 0 ≤ i ∧ i ≤ (T.size : Int) ∧ Fr (fun _ => False) w w', fun i _ => T.size - i.toNat, ⟨by omega, by omega, Fr.refl _ _⟩, ?_⟩
      rintro i w1 ⟨h0, h1, hF⟩
      refine ⟨fun hlt => ?_, fun _ => ⟨fun _ => ⟨_, _, rfl, hF⟩, fun _ => ?_⟩⟩
      · simp only [decide_eq_true_eq] at hlt
        have hc := getElem?_pos T i.toNat (by omega)
        refine ⟨_, ⟨h0, hc⟩, _, fun _ => ⟨h0, hc⟩, fun h => by simpa using h, fun _ => ⟨_, _, rfl, hF⟩, fun _ => ?_⟩
        rw [i64_succ h0 hlt (by omega)]
        exact ⟨⟨by omega, by omega, hF⟩, by dsimp only; omega⟩
      · refine ⟨fun x i w' => 0 ≤ i ∧ i ≤ (T.size : Int) ∧ Fr (fun _ => False) w w', fun _ i _ => T.size - i.toNat, ⟨by omega, by omega, hF⟩, ?_⟩
        rintro x i w1 ⟨h0, h1, hF⟩
        refine ⟨fun hlt => ?_, fun _ => ⟨_, _, rfl, hF⟩⟩
        simp only [decide_eq_true_eq] at hlt
        have hc := getElem?_pos T i.toNat (by omega)
        refine Calls.tell (mul_c _ _ _) fun v w2 ⟨m, e, hv, hf2⟩ => ?_
        subst hv
        have hF := hF.same hf2
        refine ⟨m, e, rfl, fun _ => ⟨_, _, rfl, hF⟩, fun _ => ⟨_, ⟨h0, hc⟩, fun _ => ?_, fun _ => ?_⟩⟩
        · refine Calls.tell (add_c _ _ _) fun v w3 ⟨m3, e3, hv, hf3⟩ => ?_
          subst hv
          have hF := hF.same hf3
          rw [i64_succ h0 hlt (by omega)]
          exact ⟨m3, e3, rfl, fun _ => ⟨_, _, rfl, hF⟩, fun _ => ⟨⟨by omega, by omega, hF⟩, by dsimp only; omega⟩⟩
        · refine Calls.tell (add_c _ _ _) fun v w3 ⟨m3, e3, hv, hf3⟩ => ?_
          subst hv
          have hF := hF.same hf3
          rw [i64_succ h0 hlt (by omega)]
          exact ⟨m3, e3, rfl, fun _ => ⟨_, _, rfl, hF⟩, fun _ => ⟨⟨by omega, by omega, hF⟩, by dsimp only; omega⟩⟩
    · refine ⟨fun i w' => 0 ≤ i ∧ i ≤ (s.size : Int) ∧ Fr (fun _ => False) w w', fun i _ => s.size - i.toNat, ⟨by omega, by omega, Fr.refl _ _⟩, ?_⟩
      rintro i w1 ⟨h0, h1, hF⟩
      refine ⟨fun hlt => ?_, fun _ => ⟨fun _ => ⟨_, _, rfl, hF⟩, fun _ => ?_⟩⟩
      · simp only [decide_eq_true_eq] at hlt
        have hc := getElem?_pos s i.toNat (by omega)
        refine ⟨_, ⟨h0, hc⟩, _, fun _ => ⟨h0, hc⟩, fun h => by simpa using h, fun _ => ⟨_, _, rfl, hF⟩, fun _ => ?_⟩
        rw [i64_succ h0 hlt (by omega)]
        exact ⟨⟨by omega, by omega, hF⟩, by dsimp only; omega⟩
      · refine ⟨fun x i w' => 0 ≤ i ∧ i ≤ (s.size : Int) ∧ Fr (fun _ => False) w w', fun _ i _ => s.size - i.toNat, ⟨by omega, by omega, hF⟩, ?_⟩
        rintro x i w1 ⟨h0, h1, hF⟩
        refine ⟨fun hlt => ?_, fun _ => ⟨_, _, rfl, hF⟩⟩
        simp only [decide_eq_true_eq] at hlt
        have hc := getElem?_pos s i.toNat (by omega)
        refine Calls.tell (mul_c _ _ _) fun v w2 ⟨m, e, hv, hf2⟩ => ?_
        subst hv
        have hF := hF.same hf2
        refine ⟨m, e, rfl, fun _ => ⟨_, _, rfl, hF⟩, fun _ => ⟨_, ⟨h0, hc⟩, fun _ => ?_, fun _ => ?_⟩⟩
        · refine Calls.tell (add_c _ _ _) fun v w3 ⟨m3, e3, hv, hf3⟩ => ?_
          subst hv
          have hF := hF.same hf3
          rw [i64_succ h0 hlt (by omega)]
          exact ⟨m3, e3, rfl, fun _ => ⟨_, _, rfl, hF⟩, fun _ => ⟨⟨by omega, by omega, hF⟩, by dsimp only; omega⟩⟩
        · refine Calls.tell (add_c _ _ _) fun v w3 ⟨m3, e3, hv, hf3⟩ => ?_
          subst hv
          have hF := hF.same hf3
          rw [i64_succ h0 hlt (by omega)]
          exact ⟨m3, e3, rfl, fun _ => ⟨_, _, rfl, hF⟩, fun _ => ⟨⟨by omega, by omega, hF⟩, by dsimp only; omega⟩⟩
  · refine ⟨0, fun h => by simp at h <;> omega, fun h => by simp at h <;> omega, fun _ => ?_⟩
    refine ⟨fun i w' => 0 ≤ i ∧ i ≤ (s.size : Int) ∧ Fr (fun _ => False) w w', fun i _ => s.size - i.toNat, ⟨by omega, by omega, Fr.refl _ _⟩, ?_⟩
    rintro i w1 ⟨h0, h1, hF⟩
    refine ⟨fun hlt => ?_, fun _ => ⟨fun _ => ⟨_, _, rfl, hF⟩, fun _ => ?_⟩⟩
    · simp only [decide_eq_true_eq] at hlt
      have hc := getElem?_pos s i.toNat (by omega)
      refine ⟨_, ⟨h0, hc⟩, _, fun _ => ⟨h0, hc⟩, fun h => by simpa using h, fun _ => ⟨_, _, rfl, hF⟩, fun _ => ?_⟩
      rw [i64_succ h0 hlt (by omega)]
      exact ⟨⟨by omega, by omega, hF⟩, by dsimp only; omega⟩
    · refine ⟨fun x i w' => 0 ≤ i ∧ i ≤ (s.size : Int) ∧ Fr (fun _ => False) w w', fun _ i _ => s.size - i.toNat, ⟨by omega, by omega, hF⟩, ?_⟩
      rintro x i w1 ⟨h0, h1, hF⟩
      refine ⟨fun hlt => ?_, fun _ => ⟨_, _, rfl, hF⟩⟩
      simp only [decide_eq_true_eq] at hlt
      have hc := getElem?_pos s i.toNat (by omega)
      refine Calls.tell (mul_c _ _ _) fun v w2 ⟨m, e, hv, hf2⟩ => ?_
      subst hv
      have hF := hF.same hf2
      refine ⟨m, e, rfl, fun _ => ⟨_, _, rfl, hF⟩, fun _ => ⟨_, ⟨h0, hc⟩, fun _ => ?_, fun _ => ?_⟩⟩
      · refine Calls.tell (add_c _ _ _) fun v w3 ⟨m3, e3, hv, hf3⟩ => ?_
        subst hv
        have hF := hF.same hf3
        rw [i64_succ h0 hlt (by omega)]
        exact ⟨m3, e3, rfl, fun _ => ⟨_, _, rfl, hF⟩, fun _ => ⟨⟨by omega, by omega, hF⟩, by dsimp only; omega⟩⟩
      · refine Calls.tell (add_c _ _ _) fun v w3 ⟨m3, e3, hv, hf3⟩ => ?_
        subst hv
        have hF := hF.same hf3
        rw [i64_succ h0 hlt (by omega)]
        exact ⟨m3, e3, rfl, fun _ => ⟨_, _, rfl, hF⟩, fun _ => ⟨⟨by omega, by omega, hF⟩, by dsimp only; omega⟩⟩
end Go.Proofs.Ytjlkgedcpmoehaa
