/-
  Contracts: what is safe; lists parted and joined.
-/
import Derived.Test.YtjlkgedcpmoehaaCa
import Derived.Laws.Slices
set_option linter.unusedVariables false
set_option linter.unusedSimpArgs false
namespace Go.Proofs.Ytjlkgedcpmoehaa
open Go Go.Vc

def mayF (a k : Int) : Bool := if (decide (a < 1) || decide (a > 3)) = true then true else if (decide (k < 1) || decide (k > 3)) = true then false else (a != 3 || k == 3)

theorem may_c (a k : Int) (w : World) : Calls Try.prog 33 #[.int .i64 a, .int .i64 k] w (Ret fun v w' => v = .bool (mayF a k) ∧ Fr (fun _ => False) w w') := by
  refine Sh.cast_May_calls a k ?_
  unfold Sh.cast_May
  simp only [imp_self, true_and]
  refine ⟨fun h => by simp at h ⊢; omega, fun h => ?_, fun h => ⟨fun h => by simp at h ⊢; omega, fun h' => ?_, fun h' => ⟨fun h => by simpa using h, ?_⟩⟩⟩
  · exact ⟨by rw [mayF, if_pos h], Fr.refl _ _⟩
  · exact ⟨by rw [mayF, if_neg (by simp [h]), if_pos h'], Fr.refl _ _⟩
  · exact ⟨by rw [mayF, if_neg (by simp [h]), if_neg (by simp [h'])], Fr.refl _ _⟩

def kindOf : Nd → Int
  | .mk k _ _ _ _ _ => k

def foldT : ByteArray := ⟨#[102, 111, 108, 100]⟩
def absT : ByteArray := ⟨#[97, 98, 115]⟩

/-- Whether a node by itself makes no error. -/
def aloneF : Nd → Bool
  | .mk k o s t n l =>
    if (k == 14) = true then false
    else if (k == 5) = true then o == 21
    else if (k == 6) = true then (decide (o < 7) || decide (o > 13)) && o != 17
    else if (k == 8) = true then (match l[1]? with | some x => kindOf x == 3 | none => false)
    else if (k == 13) = true then (!(s.toList == foldT.toList) && !(s.toList == absT.toList))
    else if (k == 12) = true then (match l with | [x] => if (decide (kindOf x ≤ 3)) = true then mayF (kindOf x) n else false | _ => false)
    else true

theorem NdR.kind {μ : Nat → Prop} {w : World} {x : Nd} {A : Addr} (h : NdR μ w x A) : w.cell? A = some (.int .i64 (kindOf x)) := by
  cases x; exact h.2.1

theorem frOne {w w1 : World} {b : Nat} (hb : w.heap.size ≤ b) (h : Fr (fun k => k = b) w w1) : Fr (fun _ => False) w w1 := h.mono fun i hi h => by omega

theorem alone_c {μ : Nat → Prop} {w : World} {x : Nd} {k o : Int} {s t : ByteArray} {n : Int} {p : Option Addr} {len : Nat} (cap : Nat) (h : NdV μ w x k o s t n p len cap) :
    Calls Try.prog 20 #[nv k o s t n p len cap] w (Ret fun v w' => v = .bool (aloneF x) ∧ Fr (fun _ => False) w w') := by
  obtain ⟨_, l, rfl, hs⟩ := h
  refine Sh.eval_alone_calls _ _ _ _ _ _ _ _ ?_
  unfold Sh.eval_alone
  simp only [imp_self, true_and]
  intro b hb
  refine ⟨fun h => fun w1 hf _ => ⟨by simp only [aloneF, h, if_true], frOne hb hf⟩, fun h1 => ⟨fun h => fun w1 hf _ => ⟨by simp only [aloneF, h1, h, if_true]; simp, frOne hb hf⟩, fun h2 => ⟨fun h => ?_, fun h3 => ⟨fun h => ?_, fun h4 => ⟨fun h => ?_, fun h5 => ⟨fun h => ?_, fun h6 => fun w1 hf _ => ⟨by simp only [aloneF, h1, h2, h3, h4, h5, h6]; simp, frOne hb hf⟩⟩⟩⟩⟩⟩⟩
  · refine ⟨fun h => by simp at h ⊢; omega, fun w1 hf _ => ⟨by simp only [aloneF, h1, h2, h, if_true]; simp, frOne hb hf⟩⟩
  · by_cases hl : (1 : Int) < (len : Int)
    · obtain ⟨a, x, rfl, hx, hR⟩ := hs.at (i := 1) (by omega) hl
      refine ⟨a, fun _ => ⟨rfl, by omega, hl⟩, fun _ => ⟨by simpa using hl, fun w1 hf _ => ⟨kindOf x, ?_, ?_, frOne hb hf⟩⟩, fun hc => ?_⟩
      · have := hs.frame (frOne hb hf) fun _ _ h => h.elim
        exact (NdR.kind (hR.frame (frOne hb hf) fun _ _ h => h.elim))
      · have hx' : l[1]? = some x := hx
        simp only [aloneF, h1, h2, h3, h, hx']; simp
      · simp at hc; omega
    · refine ⟨⟨0, 0, none⟩, fun hc => ?_, fun hc => ?_, fun hc w1 hf _ => ⟨?_, frOne hb hf⟩⟩
      · simp at hc; omega
      · simp at hc; omega
      · have hx' : l[1]? = none := List.getElem?_eq_none (by have := hs.1; omega)
        simp only [aloneF, h1, h2, h3, h, hx']; simp
  · refine fun w1 hf _ => ⟨by simp only [aloneF, h1, h2, h3, h4, h, if_true]; rfl, frOne hb hf⟩
  · refine ⟨fun hc w1 hf _ => ⟨?_, frOne hb hf⟩, fun hc => ?_⟩
    · have : l.length ≠ 1 := by have := hs.1; simp at hc; omega
      simp only [aloneF, h1, h2, h3, h4, h5, h]
      match l, this with
      | [], _ => simp
      | [_], h => exact absurd rfl h
      | _ :: _ :: _, _ => simp
    · have hl1 : l.length = 1 := by have := hs.1; simp at hc; omega
      obtain ⟨x, rfl⟩ := List.length_eq_one_iff.1 hl1
      have hlen := hs.1
      obtain ⟨a, y, rfl, hx, hR⟩ := hs.at (i := 0) (by omega) (by simp at hlen; omega)
      have hxy : y = x := by simpa using hx.symm
      subst hxy
      refine ⟨a, rfl, ⟨by omega, by simp at hlen; omega⟩, fun w1 hf _ => ⟨kindOf y, (NdR.kind (hR.frame (frOne hb hf) fun _ _ h => h.elim)), fun hk => ⟨hk, hk, ?_⟩, fun hk => ⟨?_, frOne hb hf⟩⟩⟩
      · refine Calls.tell (may_c _ _ _) fun v w2 ⟨hv, hf2⟩ => ?_
        subst hv
        refine ⟨_, rfl, fun hlt => hf2.keep _ hlt fun h => h, ?_, (frOne hb hf).same hf2⟩
        simp only [aloneF, h1, h2, h3, h4, h5, h, hk]; simp
      · simp only [aloneF, h1, h2, h3, h4, h5, h, hk]; simp

mutual
/-- Whether no row makes an error. -/
def safeF : Nd → Bool
  | .mk k o s t n l => safeL l && aloneF (.mk k o s t n l)
def safeL : List Nd → Bool
  | [] => true
  | x :: l => safeF x && safeL l
end

theorem safeL_take {l : List Nd} {i : Nat} {x : Nd} (hx : l[i]? = some x) : safeL (l.take (i + 1)) = (safeL (l.take i) && safeF x) := by
  induction l generalizing i with
  | nil => simp at hx
  | cons y l ih =>
    cases i with
    | zero => simp at hx; subst hx; simp [safeL]
    | succ i => simp at hx; simp [safeL, ih hx, Bool.and_assoc]

theorem safeL_mem {l : List Nd} (h : safeL l = true) : ∀ x ∈ l, safeF x = true := by
  induction l with
  | nil => simp
  | cons y l ih =>
    simp only [safeL, Bool.and_eq_true] at h
    simp only [List.mem_cons]
    rintro x (rfl | hx)
    · exact h.1
    · exact ih h.2 x hx

def SafeC (x : Nd) : Prop := ∀ (μ : Nat → Prop) (w : World) (k o : Int) (s t : ByteArray) (n : Int) (p : Option Addr) (len cap : Nat), NdV μ w x k o s t n p len cap → sz x ≤ 1000000000 →
  Calls Try.prog 11 #[nv k o s t n p len cap] w (Ret fun v w' => v = .bool (safeF x) ∧ Fr (fun _ => False) w w')

theorem safe_of {k o : Int} {s t : ByteArray} {n : Int} {l : List Nd} (hl : ∀ x ∈ l, SafeC x) : SafeC (.mk k o s t n l) := by
  intro μ w k o s t n p len cap h hb
  obtain ⟨rfl, rfl, rfl, rfl, rfl, hs⟩ := h.inj rfl
  have hbl : len ≤ 1000000000 := by have h1 := szL_len l; have h3 := hs.1; simp only [sz] at hb; omega
  refine Sh.eval_Safe_calls _ _ _ _ _ _ _ _ ?_
  unfold Sh.eval_Safe
  intro b hbb
  refine ⟨fun i w' => 0 ≤ i ∧ i ≤ (len : Int) ∧ Fr (fun _ => False) w w' ∧ safeL (l.take i.toNat) = true, fun i w' => len - i.toNat, fun w1 hf _ => ⟨by omega, by omega, frOne hbb hf, by simp [safeL]⟩, fun i w1 ⟨h0, h1, hf, ht⟩ => ⟨fun hlt => ?_, fun hge => ?_⟩⟩
  · simp only [decide_eq_true_eq] at hlt
    have hs1 := (hs.anti (ν := fun i => w.heap.size ≤ i) fun i hi h => by omega).frame hf fun _ _ h => h.elim
    obtain ⟨a, x, rfl, hx, hR⟩ := hs1.at h0 hlt
    refine ⟨a, rfl, ⟨h0, hlt⟩, hR.load fun k' o' s' t' n' p' len' cap' hv => ?_⟩
    intro b' hb' hne w2 hf2 _ _
    have hz := hf.size
    have hf2' : Fr (fun _ => False) w w2 := hf.trans hf2 (fun _ _ h => h) fun i hi h => by omega
    refine Calls.tell (hl x (List.mem_of_getElem? hx) _ w2 _ _ _ _ _ _ _ _ (hv.frame hf2 fun i _ h => by omega) (Nat.le_trans (szL_mem (List.mem_of_getElem? hx)) (by simp only [sz] at hb; omega))) fun v w3 ⟨hv3, hf3⟩ => ?_
    refine ⟨_, by rw [hv3], fun hlt => hf3.keep _ hlt fun h => h, fun hlt => hf3.keep _ hlt fun h => h, fun hr => ?_, fun hr => ?_⟩
    · refine ⟨?_, hf2'.same hf3⟩
      have : safeL l = false := by
        cases hc : safeL l with
        | false => rfl
        | true =>
          have := safeL_mem hc x (List.mem_of_getElem? hx)
          rw [this] at hr; cases hr
      simp [safeF, this]
    · simp only [Bool.not_eq_false'] at hr
      rw [i64_succ h0 hlt (by omega)]
      refine ⟨⟨by omega, by omega, hf2'.same hf3, ?_⟩, ?_⟩
      · rw [show (i + 1).toNat = i.toNat + 1 from by omega, safeL_take hx, ht, hr]; rfl
      · dsimp only; omega
  · simp only [decide_eq_false_iff_not] at hge
    refine Calls.tell (alone_c cap (h.frame hf fun _ _ h => h.elim)) fun v w2 ⟨hv, hf2⟩ => by
      subst hv
      refine ⟨_, rfl, fun hlt => hf2.keep _ hlt fun h => h, ?_, hf.same hf2⟩
      rw [List.take_of_length_le (by rw [← hs.1]; omega)] at ht
      simp [safeF, ht]

mutual
theorem safe_c : ∀ x : Nd, SafeC x
  | .mk k o s t n l => safe_of (safe_cs l)
theorem safe_cs : ∀ l : List Nd, ∀ x ∈ l, SafeC x
  | [], x, h => by cases h
  | y :: l, x, h => by
    rcases List.mem_cons.1 h with h | h
    · rw [h]; exact safe_c y
    · exact safe_cs l x h
end

/-- How many are safe, from the first on. -/
def leadF : List Nd → Nat
  | [] => 0
  | x :: l => if safeF x = true then leadF l + 1 else 0

theorem leadF_stop {l : List Nd} {i : Nat} {x : Nd} (h : safeL (l.take i) = true) (hx : l[i]? = some x) (hs : safeF x = false) : leadF l = i := by
  induction l generalizing i with
  | nil => simp at hx
  | cons y l ih =>
    cases i with
    | zero => simp at hx; subst hx; simp [leadF, hs]
    | succ i =>
      simp only [List.take_succ_cons, safeL, Bool.and_eq_true] at h
      simp at hx
      simp [leadF, h.1, ih h.2 hx]
theorem leadF_all {l : List Nd} (h : safeL l = true) : leadF l = l.length := by
  induction l with
  | nil => rfl
  | cons y l ih =>
    simp only [safeL, Bool.and_eq_true] at h
    simp [leadF, h.1, ih h.2]

theorem lead_c {μ : Nat → Prop} {w : World} {l : List Nd} {p : Option Addr} {len : Nat} (cap : Nat) (h : NdS μ w l p len) (hb : szL l ≤ 1000000000) :
    Calls Try.prog 12 #[.slice p len cap] w (Ret fun v w' => v = .int .i64 (leadF l : Nat) ∧ Fr (fun _ => False) w w') := by
  refine Sh.plan_Lead_calls _ _ _ ?_
  have hbl : len ≤ 1000000000 := by have h1 := szL_len l; have h3 := h.1; omega
  unfold Sh.plan_Lead
  simp only [imp_self, true_and]
  refine ⟨fun i w' => 0 ≤ i ∧ i ≤ (len : Int) ∧ Fr (fun _ => False) w w' ∧ safeL (l.take i.toNat) = true, fun i w' => len - i.toNat, ⟨by omega, by omega, Fr.refl _ _, by simp [safeL]⟩, fun i w1 ⟨h0, h1, hf, ht⟩ => ?_⟩
  by_cases hlt : i < (len : Int)
  · have hs1 := h.frame hf fun _ _ h => h.elim
    obtain ⟨a, x, rfl, hx, hR⟩ := hs1.at h0 hlt
    refine ⟨a, fun _ => ⟨rfl, h0, hlt⟩, fun _ => ⟨by simpa using hlt, hR.load fun k' o' s' t' n' p' len' cap' hv => ?_⟩, fun hc => by simp at hc; omega⟩
    refine Calls.tell (safe_c x μ w1 _ _ _ _ _ _ _ _ hv (Nat.le_trans (szL_mem (List.mem_of_getElem? hx)) hb)) fun v w3 ⟨hv3, hf3⟩ => ?_
    refine ⟨_, by rw [hv3], fun hr => ?_, fun hr => ⟨?_, hf.same hf3⟩⟩
    · rw [i64_succ h0 hlt (by omega)]
      refine ⟨⟨by omega, by omega, hf.same hf3, ?_⟩, ?_⟩
      · rw [show (i + 1).toNat = i.toNat + 1 from by omega, safeL_take hx, ht, hr]; rfl
      · dsimp only; omega
    · rw [leadF_stop ht hx hr]
      congr 1; omega
  · refine ⟨⟨0, 0, none⟩, fun hc => by simp at hc; omega, fun hc => by simp at hc; omega, fun hc => ⟨?_, hf⟩⟩
    rw [List.take_of_length_le (by rw [← h.1]; omega)] at ht
    rw [leadF_all ht, ← h.1]
    congr 1; omega
end Go.Proofs.Ytjlkgedcpmoehaa
