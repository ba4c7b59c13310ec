/-
  Contracts: two trees held against each other.
-/
import Derived.Test.YtjlkgedcpmoehaaOwn
import Derived.Test.YtjlkgedcpmoehaaShA
import Derived.Laws.Strings
set_option linter.unusedVariables false
set_option linter.unusedSimpArgs false
namespace Go.Vc

mutual
/-- How many nodes a tree has. -/
def sz : Nd → Nat
  | .mk _ _ _ _ _ l => 1 + szL l
def szL : List Nd → Nat
  | [] => 0
  | x :: l => sz x + szL l
end

theorem szL_mem {x : Nd} : ∀ {l : List Nd}, x ∈ l → sz x ≤ szL l
  | y :: l, h => by
    rcases List.mem_cons.1 h with rfl | h
    · simp [szL]
    · have := szL_mem h; simp [szL]; omega
theorem sz_pos : ∀ x : Nd, 1 ≤ sz x
  | .mk _ _ _ _ _ l => by simp [sz]
theorem szL_len : ∀ l : List Nd, l.length ≤ szL l
  | [] => by simp [szL]
  | x :: l => by have := szL_len l; have := sz_pos x; simp [szL]; omega

theorem Calls.tell {P : Program} {f : FuncId} {args : Array Value} {w : World} {R : Value → World → Prop} {K : Ending → World → Prop}
    (h : Calls P f args w (Ret R)) (hK : ∀ v w', R v w' → K (.returned v) w') : Calls P f args w K :=
  h.mono fun e w' ⟨v, he, hr⟩ => he ▸ hK v w' hr

/-- The six cells of a node that lies there are read. -/
theorem NdR.load {μ : Nat → Prop} {w : World} {x : Nd} {A : Addr} (h : NdR μ w x A) {F : Int → Int → ByteArray → ByteArray → Int → Option Addr → Nat → Nat → Prop}
    (hF : ∀ k o s t n p len cap, NdV μ w x k o s t n p len cap → F k o s t n p len cap) :
    ∃ k : Int, w.cell? A = some (.int .i64 k) ∧ (∃ o : Int, w.cell? (A.add 1) = some (.int .i64 o) ∧ (∃ s : ByteArray, w.cell? (A.add 2) = some (.string s) ∧ (∃ t : ByteArray, w.cell? (A.add 3) = some (.string t) ∧ (
    ∃ n : Int, w.cell? (A.add 4) = some (.int .i64 n) ∧ (∃ (p : Option Addr) (len cap : Nat), w.cell? (A.add 5) = some (.slice p len cap) ∧ (F k o s t n p len cap)))))) := by
  obtain ⟨k, o, s, t, n, p, len, cap, h0, h1, h2, h3, h4, h5, h6, h7⟩ := h.cells
  exact ⟨k, h1, o, h2, s, h3, t, h4, n, h5, p, len, cap, h6, hF _ _ _ _ _ _ _ _ h7⟩

theorem toList_inj (a b : ByteArray) : a.toList = b.toList ↔ a = b := by
  rw [ByteArray.toList_eq, ByteArray.toList_eq]
  constructor
  · intro h; cases a; cases b; simp at h; simp [h]
  · rintro rfl; rfl

theorem i64_succ {i : Int} {n : Nat} (h0 : 0 ≤ i) (h1 : i < (n : Int)) (hn : n ≤ 9223372036854775807) : IntKind.i64.wrap (i + 1) = i + 1 := wrap_i64 (by omega) (by omega)

/-- The place of a node in a slice. -/
theorem NdS.at {μ : Nat → Prop} {w : World} {l : List Nd} {p : Option Addr} {len : Nat} (h : NdS μ w l p len) {i : Int} (h0 : 0 ≤ i) (h1 : i < (len : Int)) :
    ∃ a x, p = some a ∧ l[i.toNat]? = some x ∧ NdR μ w x (a.add (i.toNat * 6)) := by
  have hl := h.1
  have hx : l[i.toNat]? = some (l[i.toNat]'(by omega)) := List.getElem?_eq_getElem (by omega)
  obtain ⟨a, h2, h3⟩ := h.get hx
  exact ⟨a, _, h2, hx, h3⟩

theorem NdV.inj {μ : Nat → Prop} {w : World} {x : Nd} {k o : Int} {s t : ByteArray} {n : Int} {p : Option Addr} {len cap : Nat} {k' o' : Int} {s' t' : ByteArray} {n' : Int} {l' : List Nd}
    (h : NdV μ w x k o s t n p len cap) (e : x = .mk k' o' s' t' n' l') : k' = k ∧ o' = o ∧ s' = s ∧ t' = t ∧ n' = n ∧ NdS μ w l' p len := by
  obtain ⟨_, l, h1, h2⟩ := h
  rw [e] at h1
  cases h1
  exact ⟨rfl, rfl, rfl, rfl, rfl, h2⟩
end Go.Vc

namespace Go.Proofs.Ytjlkgedcpmoehaa
open Go Go.Vc

abbrev nv (k o : Int) (s t : ByteArray) (n : Int) (p : Option Addr) (len cap : Nat) : Value := .agg #[.int .i64 k, .int .i64 o, .string s, .string t, .int .i64 n, .slice p len cap]

def SameC (x : Nd) : Prop := ∀ (μ : Nat → Prop) (w : World) (y : Nd) (k o : Int) (s t : ByteArray) (n : Int) (p : Option Addr) (len cap : Nat) (k' o' : Int) (s' t' : ByteArray) (n' : Int) (p' : Option Addr) (len' cap' : Nat),
  NdV μ w x k o s t n p len cap → NdV μ w y k' o' s' t' n' p' len' cap' → (sz x ≤ 1000000000 ∨ sz y ≤ 1000000000) →
  Calls Try.prog 13 #[nv k o s t n p len cap, nv k' o' s' t' n' p' len' cap'] w (Ret fun v w' => ∃ r, v = .bool r ∧ (r = true ↔ x = y) ∧ Fr (fun _ => False) w w')

def SamesC (l : List Nd) : Prop := ∀ (μ : Nat → Prop) (w : World) (m : List Nd) (p : Option Addr) (len cap : Nat) (p' : Option Addr) (len' cap' : Nat),
  NdS μ w l p len → NdS μ w m p' len' → (szL l ≤ 1000000000 ∨ szL m ≤ 1000000000) →
  Calls Try.prog 8 #[.slice p len cap, .slice p' len' cap'] w (Ret fun v w' => ∃ r, v = .bool r ∧ (r = true ↔ l = m) ∧ Fr (fun _ => False) w w')

theorem sames_of {l : List Nd} (hl : ∀ x ∈ l, SameC x) : SamesC l := by
  intro μ w m p len cap p' len' cap' h h' hb
  refine Sh.ref17_SameNodes_calls p len cap p' len' cap' ?_
  unfold Sh.ref17_SameNodes
  refine ⟨fun hne => ?_, fun he => ?_⟩
  · refine ⟨false, rfl, ?_, Fr.refl _ _⟩
    simp only [bne_iff_ne, ne_eq] at hne
    simp only [Bool.false_eq_true, false_iff]
    rintro rfl
    exact hne (by rw [h.1, h'.1])
  have hlen : len = len' := by simp at he; omega
  have hbl : len ≤ 1000000000 := by
    have h1 := szL_len l; have h2 := szL_len m; have h3 := h.1; have h4 := h'.1
    omega
  refine ⟨fun i w' => 0 ≤ i ∧ i ≤ (len : Int) ∧ Fr (fun _ => False) w w' ∧ l.take i.toNat = m.take i.toNat, fun i w' => len - i.toNat, ⟨by omega, by omega, Fr.refl _ _, by simp⟩, fun i w1 ⟨h0, h1, hf, ht⟩ => ⟨fun hlt => ?_, fun hge => ?_⟩⟩
  · simp only [decide_eq_true_eq] at hlt
    intro w2 hw2
    have hs := (h.frame (hf.same hw2) fun _ _ h => h.elim)
    have hs' := (h'.frame (hf.same hw2) fun _ _ h => h.elim)
    obtain ⟨a, x, rfl, hx, hR⟩ := hs.at h0 hlt
    obtain ⟨a', y, rfl, hy, hR'⟩ := hs'.at h0 (by omega)
    refine ⟨a, rfl, ⟨h0, hlt⟩, hR.load fun k o s t n p len cap hv => ⟨a', rfl, ⟨h0, by omega⟩, hR'.load fun k' o' s' t' n' p' len' cap' hv' => ?_⟩⟩
    refine Calls.tell (hl x (List.mem_of_getElem? hx) _ _ _ _ _ _ _ _ _ _ _ _ _ _ _ _ _ _ _ hv hv' (hb.imp (Nat.le_trans (szL_mem (List.mem_of_getElem? hx))) (Nat.le_trans (szL_mem (List.mem_of_getElem? hy))))) fun v w3 ⟨r, hr, hrx, hf3⟩ => ?_
    subst hr
    refine ⟨r, rfl, hf3, fun hr => ?_, fun hr => ?_⟩
    · simp only [Bool.not_eq_true', ] at hr
      refine ⟨false, rfl, ?_, (hf.same hw2).same hf3⟩
      simp only [Bool.false_eq_true, false_iff]
      rintro rfl
      rw [hx] at hy
      cases hy
      rw [hrx.2 rfl] at hr
      cases hr
    · simp only [Bool.not_eq_false'] at hr
      rw [i64_succ h0 hlt (by omega)]
      refine ⟨⟨by omega, by omega, (hf.same hw2).same hf3, ?_⟩, ?_⟩
      · rw [show (i + 1).toNat = i.toNat + 1 from by omega, List.take_add_one, List.take_add_one, hx, hy, ht, hrx.1 hr]
      · dsimp only
        omega
  · simp only [decide_eq_false_iff_not] at hge
    refine ⟨true, rfl, ?_, hf⟩
    simp only [true_iff]
    rw [List.take_of_length_le (by rw [← h.1]; omega), List.take_of_length_le (by rw [← h'.1]; omega)] at ht
    exact ht

theorem same_of {k o : Int} {s t : ByteArray} {n : Int} {l : List Nd} (hl : SamesC l) : SameC (.mk k o s t n l) := by
  intro μ w y k o s t n p len cap k' o' s' t' n' p' len' cap' h h' hb
  obtain ⟨rfl, rfl, rfl, rfl, rfl, hs⟩ := h.inj rfl
  obtain ⟨_, m, rfl, hs'⟩ := h'
  refine Sh.ref17_SameNode_calls _ _ _ _ _ _ _ _ _ _ _ _ _ _ _ _ ?_
  unfold Sh.ref17_SameNode
  simp only [imp_self, true_and]
  intro b hbl b' hbl' hne
  have hfr : ∀ w1, Fr (fun k => k = b' ∨ k = b) w w1 → Fr (fun _ => False) w w1 := fun w1 h => h.mono fun i hi h => by omega
  refine ⟨fun hc => ?_, fun hc w1 hf _ _ => ?_⟩
  · refine ⟨hc, hc, fun w1 hf _ _ => ?_⟩
    simp only [Bool.and_eq_true, beq_iff_eq, toList_inj] at hc
    replace hf := hfr w1 hf
    refine Calls.tell (hl μ w1 m p len cap p' len' cap' (hs.frame hf fun _ _ h => h.elim) (hs'.frame hf fun _ _ h => h.elim) ?_) fun v w2 ⟨r, hr, hrx, hf2⟩ => ?_
    · simp only [sz] at hb; omega
    · refine ⟨r, hr ▸ rfl, fun hlt => hf2.keep _ hlt fun h => h, fun hlt => hf2.keep _ hlt fun h => h, r, rfl, ?_, hf.same hf2⟩
      rw [hrx]
      obtain ⟨⟨⟨⟨rfl, rfl⟩, rfl⟩, rfl⟩, rfl⟩ := hc
      simp
  · refine ⟨false, rfl, ?_, hfr w1 hf⟩
    simp only [Bool.false_eq_true, false_iff]
    intro he
    cases he
    simp at hc

mutual
theorem sameNode : ∀ x : Nd, SameC x
  | .mk k o s t n l => same_of (sames_of (sameNodes' l))
theorem sameNodes' : ∀ l : List Nd, ∀ x ∈ l, SameC x
  | [], x, h => by cases h
  | y :: l, x, h => by
    rcases List.mem_cons.1 h with h | h
    · rw [h]; exact sameNode y
    · exact sameNodes' l x h
end
theorem sameNodes (l : List Nd) : SamesC l := sames_of (sameNodes' l)
end Go.Proofs.Ytjlkgedcpmoehaa
