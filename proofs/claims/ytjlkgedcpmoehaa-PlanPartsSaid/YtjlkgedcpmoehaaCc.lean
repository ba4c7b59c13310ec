/-
  Contracts: parts by AND, and their join.
-/
import Derived.Test.YtjlkgedcpmoehaaCb
set_option linter.unusedVariables false
set_option linter.unusedSimpArgs false
set_option maxRecDepth 100000
namespace Go.Vc

/-- The parts of a tree by AND. -/
def conjF : Nd → List Nd
  | .mk k o s t n l => if k = 6 ∧ o = 18 then (match l with | [a, b] => conjF a ++ conjF b | _ => [.mk k o s t n l]) else [.mk k o s t n l]
termination_by x => sz x
decreasing_by
  · simp [sz, szL]; omega
  · simp [sz, szL]; omega

theorem conjF_and (s t : ByteArray) (n : Int) (a b : Nd) : conjF (.mk 6 18 s t n [a, b]) = conjF a ++ conjF b := by
  rw [conjF]; simp
theorem conjF_other {k o : Int} {s t : ByteArray} {n : Int} {l : List Nd} (h : ¬ (k = 6 ∧ o = 18 ∧ l.length = 2)) : conjF (.mk k o s t n l) = [.mk k o s t n l] := by
  match l, h with
  | [], _ => simp [conjF]
  | [_], _ => simp [conjF]
  | [a, b], h => simp [conjF]; intro h1 h2; exact absurd ⟨h1, h2, rfl⟩ h
  | a :: b :: c :: l, _ => simp [conjF]

theorem szL_append (l m : List Nd) : szL (l ++ m) = szL l + szL m := by
  induction l with
  | nil => simp [szL]
  | cons x l ih => simp [szL, ih]; omega

theorem conjF_sz : ∀ (c : Nat) (x : Nd), sz x ≤ c → szL (conjF x) ≤ sz x
  | 0, x, h => by have := sz_pos x; omega
  | c + 1, .mk k o s t n l, h => by
    by_cases hc : k = 6 ∧ o = 18 ∧ l.length = 2
    · obtain ⟨rfl, rfl, h2⟩ := hc
      match l, h2 with
      | [a, b], _ =>
        rw [conjF_and, szL_append]
        simp only [sz, szL] at h ⊢
        have := conjF_sz c a (by omega)
        have := conjF_sz c b (by omega)
        omega
    · rw [conjF_other hc]; simp [szL]

theorem conjF_ne : ∀ (c : Nat) (x : Nd), sz x ≤ c → conjF x ≠ []
  | 0, x, h => by have := sz_pos x; omega
  | c + 1, .mk k o s t n l, h => by
    by_cases hc : k = 6 ∧ o = 18 ∧ l.length = 2
    · obtain ⟨rfl, rfl, h2⟩ := hc
      match l, h2 with
      | [a, b], _ =>
        rw [conjF_and]
        simp only [sz, szL] at h
        have := conjF_ne c a (by omega)
        simp [this]
    · rw [conjF_other hc]; simp

/-- The parts are no ANDs themselves. -/
theorem conjF_parts : ∀ (c : Nat) (x : Nd), sz x ≤ c → ∀ y ∈ conjF x, conjF y = [y]
  | 0, x, h => by have := sz_pos x; omega
  | c + 1, .mk k o s t n l, h => by
    by_cases hc : k = 6 ∧ o = 18 ∧ l.length = 2
    · obtain ⟨rfl, rfl, h2⟩ := hc
      match l, h2 with
      | [a, b], _ =>
        rw [conjF_and]
        simp only [sz, szL] at h
        intro y hy
        rcases List.mem_append.1 hy with hy | hy
        · exact conjF_parts c a (by omega) y hy
        · exact conjF_parts c b (by omega) y hy
    · rw [conjF_other hc]
      intro y hy
      rw [List.mem_singleton.1 hy]
      exact conjF_other hc

/-- The join of parts. -/
def joinF (x : Nd) : List Nd → Nd
  | [] => x
  | y :: l => joinF (.mk 6 18 ⟨#[]⟩ ⟨#[]⟩ 0 [x, y]) l

theorem joinF_snoc (y : Nd) : ∀ (l : List Nd) (x : Nd), joinF x (l ++ [y]) = .mk 6 18 ⟨#[]⟩ ⟨#[]⟩ 0 [joinF x l, y]
  | [], x => rfl
  | z :: l, x => joinF_snoc y l _

theorem conjF_joinF : ∀ (l : List Nd) (x : Nd), (∀ y ∈ l, conjF y = [y]) → conjF (joinF x l) = conjF x ++ l
  | [], x, _ => by simp [joinF]
  | y :: l, x, h => by
    rw [joinF, conjF_joinF l _ fun z hz => h z (List.mem_cons_of_mem _ hz), conjF_and, h y (List.mem_cons_self ..)]
    simp

theorem joinF_sz : ∀ (l : List Nd) (x : Nd), sz (joinF x l) ≤ sz x + szL l + l.length
  | [], x => by simp [joinF, szL]
  | y :: l, x => by
    rw [joinF]
    have := joinF_sz l (.mk 6 18 ⟨#[]⟩ ⟨#[]⟩ 0 [x, y])
    simp only [sz, szL, List.length_cons] at this ⊢
    omega
end Go.Vc

namespace Go.Proofs.Ytjlkgedcpmoehaa
open Go Go.Vc

noncomputable def T24 : NodeTy Try.prog 22 24 :=
  { i := Try.t24, z := (Try.t24.zero).getD default, ht := by kernel_rfl, hi := by kernel_rfl, hz := by kernel_rfl, size := by kernel_rfl, bytes := by kernel_rfl, zs := by kernel_rfl }

theorem elem22 : Try.prog.elem 22 = 24 := by kernel_rfl
theorem und22 : Try.prog.underlying 22 = some (.slice (Try.prog.elem 22)) := by kernel_rfl
theorem und3 : Try.prog.underlying 3 = some (.int .i64) := by kernel_rfl
theorem size24 (w : World) : (Go.sizeOf 24).run Try.prog w = .ok 6 w := by
  have hi : Try.prog.info? 24 = some Try.t24 := T24.hi
  have hs : Try.t24.size = 6 := T24.size
  simp [Go.sizeOf, typeInfo, hi, hs]

theorem clip_c (p : Option Addr) (len cap : Nat) (w : World) (h : len ≤ cap) : Calls Try.prog 18 #[.slice p len cap] w (Ret fun v w' => v = .slice p len len ∧ w' = w) := by
  refine Sh.slices_Clip_api_Node_api_Node_calls _ _ _ ?_
  unfold Sh.slices_Clip_api_Node_api_Node
  refine ⟨p, len, len, w, ?_, rfl, rfl⟩
  rw [run_sliceAt_slice w 22 _ _ _ _ und22, run_slice_hm w 22 p len cap und22 .i64 .i64 _ _ (by omega) (by omega) (by omega), elem22, size24]
  simp [Result.andThen, sliced]
  intro h0
  cases p <;> simp [add_zero']
end Go.Proofs.Ytjlkgedcpmoehaa
