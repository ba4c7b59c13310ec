/-
  Contracts of the document's own printing: words.
-/
import Derived.Test.YtjlkgedcpmoehaaWa
set_option linter.unusedVariables false
set_option linter.unusedSimpArgs false
set_option maxRecDepth 100000
namespace Go.Vc
/-- All but the first of a slice of nodes. -/
theorem NdS.tail {μ : Nat → Prop} {w : World} {x : Nd} {r : List Nd} {p : Option Addr} {len cap : Nat} (h : NdS μ w (x :: r) p len) (hle : len ≤ cap) (hr : 1 < len) :
    NdS μ w r (if cap = (1 : Int).toNat then p else p.map (·.add ((1 : Int).toNat * 6))) (len - (1 : Int).toNat) := by
  have hlen := h.1
  simp only [List.length_cons] at hlen
  rw [if_neg (by simp; omega)]
  obtain ⟨a, ha, _⟩ := h.get (j := 0) (x := x) rfl
  subst ha
  refine NdS.mk' (by simp; omega) fun j y hj => ?_
  obtain ⟨a', ha', hR⟩ := h.get (j := j + 1) (x := y) (by simpa using hj)
  cases ha'
  rw [add_add]
  rwa [show (1 : Int).toNat * 6 + j * 6 = (j + 1) * 6 from by simp; omega]

theorem bsz_lit (l : List UInt8) : (⟨l.toArray⟩ : ByteArray).size = l.length := rfl
end Go.Vc
namespace Go.Proofs.Ytjlkgedcpmoehaa
open Go Go.Vc

/-- Words of a tree: no longer than the tree allows. -/
def WC (x : Nd) : Prop := ∀ (μ : Nat → Prop) (w : World) (k o : Int) (s t : ByteArray) (n : Int) (p : Option Addr) (len cap : Nat), NdV μ w x k o s t n p len cap →
  Calls Try.prog 16 #[nv k o s t n p len cap] w (Ret fun v w' => ∃ u : ByteArray, v = .string u ∧ u.size + 100 ≤ 1200 * sz x ∧ Fr (fun _ => False) w w')

theorem at_c {x : Nd} (h : WC x) (hb : sz x ≤ 1000000) (μ : Nat → Prop) (w : World) (k o : Int) (s t : ByteArray) (n : Int) (p : Option Addr) (len cap : Nat) (level : Int) (hv : NdV μ w x k o s t n p len cap) :
    Calls Try.prog 22 #[nv k o s t n p len cap, .int .i64 level] w (Ret fun v w' => ∃ u : ByteArray, v = .string u ∧ u.size + 96 ≤ 1200 * sz x ∧ Fr (fun _ => False) w w') := by
  refine Sh.ref18_at_calls _ _ _ _ _ _ _ _ _ ?_
  unfold Sh.ref18_at
  intro b hbb w1 hf1 _
  have hF := frOne hbb hf1
  refine Calls.tell (level_c _ _ _ _ _ _ _ _ _) fun v w2 ⟨i, hv2, hf2⟩ => ?_
  subst hv2
  have hF := hF.same hf2
  refine ⟨i, rfl, fun h => hf2.keep _ h fun h => h, fun _ => ?_, fun _ => ?_⟩
  · refine Calls.tell (h μ w2 _ _ _ _ _ _ _ _ (hv.frame hF fun _ _ h => h.elim)) fun v w3 ⟨u, hv3, hu, hf3⟩ => ?_
    subst hv3
    exact ⟨u, rfl, fun h => hf3.keep _ h fun h => h, (by first | omega | (simp only [ByteArray.size_append, bsz_lit, List.length_cons, List.length_nil]; omega)), (by first | omega | (simp only [ByteArray.size_append, bsz_lit, List.length_cons, List.length_nil]; omega)), _, rfl, (by first | omega | (simp only [ByteArray.size_append, bsz_lit, List.length_cons, List.length_nil]; omega)), hF.same hf3⟩
  · refine Calls.tell (h μ w2 _ _ _ _ _ _ _ _ (hv.frame hF fun _ _ h => h.elim)) fun v w3 ⟨u, hv3, hu, hf3⟩ => ?_
    subst hv3
    exact ⟨u, rfl, fun h => hf3.keep _ h fun h => h, u, rfl, by omega, hF.same hf3⟩

theorem commas_c {l : List Nd} (h : ∀ x ∈ l, WC x) (hb : szL l ≤ 1000000) {μ : Nat → Prop} {w : World} {p : Option Addr} {len : Nat} (cap : Nat) (hs : NdS μ w l p len) :
    Calls Try.prog 25 #[.slice p len cap] w (Ret fun v w' => ∃ u : ByteArray, v = .string u ∧ u.size ≤ 1200 * szL l ∧ Fr (fun _ => False) w w') := by
  refine Sh.ref18_commas_calls _ _ _ ?_
  unfold Sh.ref18_commas
  have hbl : len ≤ 1000000 := by have h1 := szL_len l; have h3 := hs.1; omega
  refine ⟨fun u i w' => 0 ≤ i ∧ i ≤ (len : Int) ∧ Fr (fun _ => False) w w' ∧ u.size ≤ 1200 * szL (l.take i.toNat) ∧ szL (l.take i.toNat) ≤ szL l, fun _ i _ => len - i.toNat, ⟨by omega, by omega, Fr.refl _ _, by simp [szL]; rfl, by simp [szL]⟩, ?_⟩
  rintro u i w1 ⟨h0, h1, hF, hu, hle⟩
  refine ⟨fun hlt => ?_, fun hge => ?_⟩
  · simp only [decide_eq_true_eq] at hlt
    have step : ∀ (y : Nd), l[i.toNat]? = some y → szL (l.take (i + 1).toNat) = szL (l.take i.toNat) + sz y ∧ szL (l.take (i + 1).toNat) ≤ szL l ∧ WC y := by
      intro y hy
      have e := szL_take hy
      rw [show (i + 1).toNat = i.toNat + 1 from by omega]
      refine ⟨e, ?_, h y (List.mem_of_getElem? hy)⟩
      have := szL_append (l.take (i.toNat + 1)) (l.drop (i.toNat + 1))
      rw [List.take_append_drop] at this
      omega
    refine ⟨fun _ => ⟨(by first | omega | (simp only [ByteArray.size_append, bsz_lit, List.length_cons, List.length_nil]; omega)), hs.kidF hF h0 hlt fun a y k o s t n q ql qc hy hv => ?_⟩, fun _ => hs.kidF hF h0 hlt fun a y k o s t n q ql qc hy hv => ?_⟩
    · obtain ⟨e1, e2, e3⟩ := step y hy
      refine Calls.tell (at_c e3 (by omega) μ w1 _ _ _ _ _ _ _ _ _ (hv.frame hF fun _ _ h => h.elim)) fun v w2 ⟨u2, hv2, hu2, hf2⟩ => ?_
      subst hv2
      rw [i64_succ h0 hlt (by omega)]
      exact ⟨u2, rfl, (by first | omega | (simp only [ByteArray.size_append, bsz_lit, List.length_cons, List.length_nil]; omega)), ⟨by omega, by omega, hF.same hf2, (by first | omega | (simp only [ByteArray.size_append, bsz_lit, List.length_cons, List.length_nil]; omega)), e2⟩, by dsimp only; omega⟩
    · obtain ⟨e1, e2, e3⟩ := step y hy
      refine Calls.tell (at_c e3 (by omega) μ w1 _ _ _ _ _ _ _ _ _ (hv.frame hF fun _ _ h => h.elim)) fun v w2 ⟨u2, hv2, hu2, hf2⟩ => ?_
      subst hv2
      rw [i64_succ h0 hlt (by omega)]
      exact ⟨u2, rfl, (by first | omega | (simp only [ByteArray.size_append, bsz_lit, List.length_cons, List.length_nil]; omega)), ⟨by omega, by omega, hF.same hf2, (by first | omega | (simp only [ByteArray.size_append, bsz_lit, List.length_cons, List.length_nil]; omega)), e2⟩, by dsimp only; omega⟩
  · simp only [decide_eq_false_iff_not] at hge
    rw [List.take_of_length_le (by rw [← hs.1]; omega)] at hu
    exact ⟨u, rfl, hu, hF⟩

theorem list1 {l : List Nd} (h : l.length = 1) : ∃ x, l = [x] := List.length_eq_one_iff.1 h
theorem list2 {l : List Nd} (h : l.length = 2) : ∃ x y, l = [x, y] := by
  match l, h with
  | [x, y], _ => exact ⟨x, y, rfl⟩
theorem list3 {l : List Nd} (h : l.length = 3) : ∃ x y z, l = [x, y, z] := by
  match l, h with
  | [x, y, z], _ => exact ⟨x, y, z, rfl⟩

theorem words_of {k o : Int} {s t : ByteArray} {n : Int} {l : List Nd} (hk : ∀ x ∈ l, WC x) (hg : s.size ≤ 500 ∧ t.size ≤ 50) (hn : -9223372036854775808 ≤ n ∧ n ≤ 9223372036854775807) (hb : sz (.mk k o s t n l) ≤ 1000000) : WC (.mk k o s t n l) := by
  intro μ w k o s t n p len cap hv
  obtain ⟨rfl, rfl, rfl, rfl, rfl, hs⟩ := hv.inj rfl
  have hlen := hs.1
  simp only [sz] at hb ⊢
  refine Sh.ref18_words_calls _ _ _ _ _ _ _ _ ?_
  unfold Sh.ref18_words
  simp only [imp_self, true_and]
  intro b hbb
  have hF := Fr.refl (fun _ => False) w
  obtain ⟨hg1, hg2⟩ := hg
  refine ⟨fun hc => ?_, fun _ => ⟨fun hc => ?_, fun _ => ⟨fun hc => ?_, fun _ => ⟨fun hc => ?_, fun _ => ⟨fun hc => ?_, fun _ => ⟨fun hc => ?_, fun _ => ⟨fun hc => ?_, fun _ => ⟨fun hc => ?_, fun _ => ⟨fun hc => ?_, fun _ => ⟨fun hc => ?_, fun _ => ?_⟩⟩⟩⟩⟩⟩⟩⟩⟩⟩
  all_goals try simp only [Bool.and_eq_true, beq_iff_eq, decide_eq_true_eq] at hc
  · -- XBin
    obtain ⟨x, y, rfl⟩ := list2 (l := l) (by omega)
    simp only [szL] at hb ⊢
    intro w1 hf1 hl1
    have hF := hF.late hf1 (fun i hi h => by omega)
    have hD := Fr.refl (fun _ => False) w1
    refine Calls.tell (level_c _ _ _ _ _ _ _ _ _) fun v w1 ⟨i, hvv, hf1⟩ => ?_
    subst hvv
    have hF := hF.same hf1
    have hD := hD.same hf1
    refine ⟨i, rfl, fun h => hf1.keep _ h fun h => h, ?_⟩
    refine ⟨fun _ => ?_, fun _ => ?_⟩
    · intro w1 hf1 hl1
      have hF := hF.late hf1 (fun i hi h => by omega)
      have hD := Fr.refl (fun _ => False) w1
      refine hs.kidF hF (by omega) (by omega) fun a x' k' o' s' t' n' q ql qc hx hvx => ?_
      obtain rfl := Option.some.inj hx
      refine hs.kidF hF (by omega) (by omega) fun a y' k' o' s' t' n' q ql qc hx hvy => ?_
      obtain rfl := Option.some.inj hx
      refine Calls.tell (at_c (hk x (by simp)) (by omega) _ _ _ _ _ _ _ _ _ _ _ (hvx.frame hF fun _ _ h => h.elim)) fun v w1 ⟨u, hvv, hu, hf1⟩ => ?_
      subst hvv
      have hF := hF.same hf1
      have hD := hD.same hf1
      refine ⟨u, rfl, fun h => hf1.keep _ h fun h => h, ?_⟩
      refine ⟨hD, (by first | omega | (simp only [ByteArray.size_append, bsz_lit, List.length_cons, List.length_nil]; omega)), ?_⟩
      refine Calls.tell (opName_c _ _) fun v w1 ⟨u2, hvv, hu2, hf1⟩ => ?_
      subst hvv
      have hF := hF.same hf1
      have hD := hD.same hf1
      refine ⟨u2, rfl, fun h => hf1.keep _ h fun h => h, ?_⟩
      refine ⟨hD, (by first | omega | (simp only [ByteArray.size_append, bsz_lit, List.length_cons, List.length_nil]; omega)), (by first | omega | (simp only [ByteArray.size_append, bsz_lit, List.length_cons, List.length_nil]; omega)), ?_⟩
      refine Calls.tell (at_c (hk y (by simp)) (by omega) _ _ _ _ _ _ _ _ _ _ _ (hvy.frame hF fun _ _ h => h.elim)) fun v w1 ⟨u3, hvv, hu3, hf1⟩ => ?_
      subst hvv
      have hF := hF.same hf1
      have hD := hD.same hf1
      refine ⟨u3, rfl, fun h => hf1.keep _ h fun h => h, ?_⟩
      refine ⟨hD, (by first | omega | (simp only [ByteArray.size_append, bsz_lit, List.length_cons, List.length_nil]; omega)), ?_⟩
      exact ⟨_, rfl, (by first | omega | (simp only [ByteArray.size_append, bsz_lit, List.length_cons, List.length_nil]; omega)), hF⟩
    · intro w1 hf1 hl1
      have hF := hF.late hf1 (fun i hi h => by omega)
      have hD := Fr.refl (fun _ => False) w1
      refine hs.kidF hF (by omega) (by omega) fun a x' k' o' s' t' n' q ql qc hx hvx => ?_
      obtain rfl := Option.some.inj hx
      refine hs.kidF hF (by omega) (by omega) fun a y' k' o' s' t' n' q ql qc hx hvy => ?_
      obtain rfl := Option.some.inj hx
      refine Calls.tell (at_c (hk x (by simp)) (by omega) _ _ _ _ _ _ _ _ _ _ _ (hvx.frame hF fun _ _ h => h.elim)) fun v w1 ⟨u, hvv, hu, hf1⟩ => ?_
      subst hvv
      have hF := hF.same hf1
      have hD := hD.same hf1
      refine ⟨u, rfl, fun h => hf1.keep _ h fun h => h, ?_⟩
      refine ⟨hD, (by first | omega | (simp only [ByteArray.size_append, bsz_lit, List.length_cons, List.length_nil]; omega)), ?_⟩
      refine Calls.tell (opName_c _ _) fun v w1 ⟨u2, hvv, hu2, hf1⟩ => ?_
      subst hvv
      have hF := hF.same hf1
      have hD := hD.same hf1
      refine ⟨u2, rfl, fun h => hf1.keep _ h fun h => h, ?_⟩
      refine ⟨hD, (by first | omega | (simp only [ByteArray.size_append, bsz_lit, List.length_cons, List.length_nil]; omega)), (by first | omega | (simp only [ByteArray.size_append, bsz_lit, List.length_cons, List.length_nil]; omega)), ?_⟩
      refine Calls.tell (at_c (hk y (by simp)) (by omega) _ _ _ _ _ _ _ _ _ _ _ (hvy.frame hF fun _ _ h => h.elim)) fun v w1 ⟨u3, hvv, hu3, hf1⟩ => ?_
      subst hvv
      have hF := hF.same hf1
      have hD := hD.same hf1
      refine ⟨u3, rfl, fun h => hf1.keep _ h fun h => h, ?_⟩
      refine ⟨hD, (by first | omega | (simp only [ByteArray.size_append, bsz_lit, List.length_cons, List.length_nil]; omega)), ?_⟩
      exact ⟨_, rfl, (by first | omega | (simp only [ByteArray.size_append, bsz_lit, List.length_cons, List.length_nil]; omega)), hF⟩
  · -- XUn
    obtain ⟨x, rfl⟩ := list1 (l := l) (by omega)
    simp only [szL] at hb ⊢
    refine ⟨fun _ => ?_, fun _ => ?_⟩
    · refine hs.kidA (by omega) (by omega) fun a x' hx hR => ?_
      obtain rfl := Option.some.inj hx
      intro w1 hf1 hl1
      have hF := hF.late hf1 (fun i hi h => by omega)
      have hD := Fr.refl (fun _ => False) w1
      refine hR.loadF hF fun k' o' s' t' n' q ql qc hvx => ?_
      refine Calls.tell (at_c (hk x (by simp)) (by omega) _ _ _ _ _ _ _ _ _ _ _ (hvx.frame hF fun _ _ h => h.elim)) fun v w1 ⟨u, hvv, hu, hf1⟩ => ?_
      subst hvv
      have hF := hF.same hf1
      have hD := hD.same hf1
      refine ⟨u, rfl, fun h => hf1.keep _ h fun h => h, ?_⟩
      refine ⟨(by first | omega | (simp only [ByteArray.size_append, bsz_lit, List.length_cons, List.length_nil]; omega)), ?_⟩
      exact ⟨_, rfl, (by first | omega | (simp only [ByteArray.size_append, bsz_lit, List.length_cons, List.length_nil]; omega)), hF⟩
    · refine hs.kidA (by omega) (by omega) fun a x' hx hR => ?_
      obtain rfl := Option.some.inj hx
      intro w1 hf1 hl1
      have hF := hF.late hf1 (fun i hi h => by omega)
      have hD := Fr.refl (fun _ => False) w1
      refine hR.loadF hF fun k' o' s' t' n' q ql qc hvx => ?_
      refine Calls.tell (at_c (hk x (by simp)) (by omega) _ _ _ _ _ _ _ _ _ _ _ (hvx.frame hF fun _ _ h => h.elim)) fun v w1 ⟨u, hvv, hu, hf1⟩ => ?_
      subst hvv
      have hF := hF.same hf1
      have hD := hD.same hf1
      refine ⟨u, rfl, fun h => hf1.keep _ h fun h => h, ?_⟩
      refine ⟨(by first | omega | (simp only [ByteArray.size_append, bsz_lit, List.length_cons, List.length_nil]; omega)), ?_⟩
      exact ⟨_, rfl, (by first | omega | (simp only [ByteArray.size_append, bsz_lit, List.length_cons, List.length_nil]; omega)), hF⟩
  · -- XIs
    obtain ⟨x, rfl⟩ := list1 (l := l) (by omega)
    simp only [szL] at hb ⊢
    intro w1 hf1 hl1
    have hF := hF.late hf1 (fun i hi h => by omega)
    have hD := Fr.refl (fun _ => False) w1
    refine hs.kidF hF (by omega) (by omega) fun a x' k' o' s' t' n' q ql qc hx hvx => ?_
    obtain rfl := Option.some.inj hx
    refine Calls.tell (at_c (hk x (by simp)) (by omega) _ _ _ _ _ _ _ _ _ _ _ (hvx.frame hF fun _ _ h => h.elim)) fun v w1 ⟨u, hvv, hu, hf1⟩ => ?_
    subst hvv
    have hF := hF.same hf1
    have hD := hD.same hf1
    refine ⟨u, rfl, fun h => hf1.keep _ h fun h => h, ?_⟩
    refine ⟨hD, (by first | omega | (simp only [ByteArray.size_append, bsz_lit, List.length_cons, List.length_nil]; omega)), ?_⟩
    refine Calls.tell (not_c _ _ _ _ _ _ _ _ _) fun v w1 ⟨u2, hvv, hu2, hf1⟩ => ?_
    subst hvv
    have hF := hF.same hf1
    have hD := hD.same hf1
    refine ⟨u2, rfl, fun h => hf1.keep _ h fun h => h, ?_⟩
    refine ⟨hD, (by first | omega | (simp only [ByteArray.size_append, bsz_lit, List.length_cons, List.length_nil]; omega)), (by first | omega | (simp only [ByteArray.size_append, bsz_lit, List.length_cons, List.length_nil]; omega)), ?_⟩
    exact ⟨_, rfl, (by first | omega | (simp only [ByteArray.size_append, bsz_lit, List.length_cons, List.length_nil]; omega)), hF⟩
  · -- XLike 2
    obtain ⟨x, y, rfl⟩ := list2 (l := l) (by omega)
    simp only [szL] at hb ⊢
    intro w1 hf1 hl1
    have hF := hF.late hf1 (fun i hi h => by omega)
    have hD := Fr.refl (fun _ => False) w1
    refine hs.kidF hF (by omega) (by omega) fun a x' k' o' s' t' n' q ql qc hx hvx => ?_
    obtain rfl := Option.some.inj hx
    refine hs.kidF hF (by omega) (by omega) fun a y' k' o' s' t' n' q ql qc hx hvy => ?_
    obtain rfl := Option.some.inj hx
    refine Calls.tell (at_c (hk x (by simp)) (by omega) _ _ _ _ _ _ _ _ _ _ _ (hvx.frame hF fun _ _ h => h.elim)) fun v w1 ⟨u, hvv, hu, hf1⟩ => ?_
    subst hvv
    have hF := hF.same hf1
    have hD := hD.same hf1
    refine ⟨u, rfl, fun h => hf1.keep _ h fun h => h, ?_⟩
    refine ⟨hD, (by first | omega | (simp only [ByteArray.size_append, bsz_lit, List.length_cons, List.length_nil]; omega)), ?_⟩
    refine Calls.tell (not_c _ _ _ _ _ _ _ _ _) fun v w1 ⟨u2, hvv, hu2, hf1⟩ => ?_
    subst hvv
    have hF := hF.same hf1
    have hD := hD.same hf1
    refine ⟨u2, rfl, fun h => hf1.keep _ h fun h => h, ?_⟩
    refine ⟨hD, (by first | omega | (simp only [ByteArray.size_append, bsz_lit, List.length_cons, List.length_nil]; omega)), (by first | omega | (simp only [ByteArray.size_append, bsz_lit, List.length_cons, List.length_nil]; omega)), ?_⟩
    refine Calls.tell (at_c (hk y (by simp)) (by omega) _ _ _ _ _ _ _ _ _ _ _ (hvy.frame hF fun _ _ h => h.elim)) fun v w1 ⟨u3, hvv, hu3, hf1⟩ => ?_
    subst hvv
    have hF := hF.same hf1
    have hD := hD.same hf1
    refine ⟨u3, rfl, fun h => hf1.keep _ h fun h => h, ?_⟩
    refine ⟨hD, (by first | omega | (simp only [ByteArray.size_append, bsz_lit, List.length_cons, List.length_nil]; omega)), ?_⟩
    exact ⟨_, rfl, (by first | omega | (simp only [ByteArray.size_append, bsz_lit, List.length_cons, List.length_nil]; omega)), hF⟩
  · -- XLike 3
    obtain ⟨x, y, z, rfl⟩ := list3 (l := l) (by omega)
    simp only [szL] at hb ⊢
    intro w1 hf1 hl1
    have hF := hF.late hf1 (fun i hi h => by omega)
    have hD := Fr.refl (fun _ => False) w1
    refine hs.kidF hF (by omega) (by omega) fun a x' k' o' s' t' n' q ql qc hx hvx => ?_
    obtain rfl := Option.some.inj hx
    refine hs.kidF hF (by omega) (by omega) fun a y' k' o' s' t' n' q ql qc hx hvy => ?_
    obtain rfl := Option.some.inj hx
    refine hs.kidF hF (by omega) (by omega) fun a z' k' o' s' t' n' q ql qc hx hvz => ?_
    obtain rfl := Option.some.inj hx
    refine Calls.tell (at_c (hk x (by simp)) (by omega) _ _ _ _ _ _ _ _ _ _ _ (hvx.frame hF fun _ _ h => h.elim)) fun v w1 ⟨u, hvv, hu, hf1⟩ => ?_
    subst hvv
    have hF := hF.same hf1
    have hD := hD.same hf1
    refine ⟨u, rfl, fun h => hf1.keep _ h fun h => h, ?_⟩
    refine ⟨hD, (by first | omega | (simp only [ByteArray.size_append, bsz_lit, List.length_cons, List.length_nil]; omega)), ?_⟩
    refine Calls.tell (not_c _ _ _ _ _ _ _ _ _) fun v w1 ⟨u2, hvv, hu2, hf1⟩ => ?_
    subst hvv
    have hF := hF.same hf1
    have hD := hD.same hf1
    refine ⟨u2, rfl, fun h => hf1.keep _ h fun h => h, ?_⟩
    refine ⟨hD, (by first | omega | (simp only [ByteArray.size_append, bsz_lit, List.length_cons, List.length_nil]; omega)), (by first | omega | (simp only [ByteArray.size_append, bsz_lit, List.length_cons, List.length_nil]; omega)), ?_⟩
    refine Calls.tell (at_c (hk y (by simp)) (by omega) _ _ _ _ _ _ _ _ _ _ _ (hvy.frame hF fun _ _ h => h.elim)) fun v w1 ⟨u3, hvv, hu3, hf1⟩ => ?_
    subst hvv
    have hF := hF.same hf1
    have hD := hD.same hf1
    refine ⟨u3, rfl, fun h => hf1.keep _ h fun h => h, ?_⟩
    refine ⟨hD, (by first | omega | (simp only [ByteArray.size_append, bsz_lit, List.length_cons, List.length_nil]; omega)), (by first | omega | (simp only [ByteArray.size_append, bsz_lit, List.length_cons, List.length_nil]; omega)), ?_⟩
    refine Calls.tell (at_c (hk z (by simp)) (by omega) _ _ _ _ _ _ _ _ _ _ _ (hvz.frame hF fun _ _ h => h.elim)) fun v w1 ⟨u4, hvv, hu4, hf1⟩ => ?_
    subst hvv
    have hF := hF.same hf1
    have hD := hD.same hf1
    refine ⟨u4, rfl, fun h => hf1.keep _ h fun h => h, ?_⟩
    refine ⟨hD, (by first | omega | (simp only [ByteArray.size_append, bsz_lit, List.length_cons, List.length_nil]; omega)), ?_⟩
    exact ⟨_, rfl, (by first | omega | (simp only [ByteArray.size_append, bsz_lit, List.length_cons, List.length_nil]; omega)), hF⟩
  · -- XIn
    have hl2 : 1 < len := by omega
    obtain ⟨x, r, rfl⟩ : ∃ x r, l = x :: r := by
      match l, hlen with
      | x :: r, _ => exact ⟨x, r, rfl⟩
      | [], h => simp at h; omega
    simp only [szL] at hb ⊢
    intro w1 hf1 hl1
    have hF := hF.late hf1 (fun i hi h => by omega)
    have hD := Fr.refl (fun _ => False) w1
    refine hs.kidF hF (by omega) (by omega) fun a x' k' o' s' t' n' q ql qc hx hvx => ?_
    obtain rfl := Option.some.inj hx
    refine ⟨⟨by omega, by omega⟩, ?_⟩
    refine Calls.tell (at_c (hk x (by simp)) (by omega) _ _ _ _ _ _ _ _ _ _ _ (hvx.frame hF fun _ _ h => h.elim)) fun v w1 ⟨u, hvv, hu, hf1⟩ => ?_
    subst hvv
    have hF := hF.same hf1
    have hD := hD.same hf1
    refine ⟨u, rfl, fun h => hf1.keep _ h fun h => h, ?_⟩
    refine ⟨hD, (by first | omega | (simp only [ByteArray.size_append, bsz_lit, List.length_cons, List.length_nil]; omega)), ?_⟩
    refine Calls.tell (not_c _ _ _ _ _ _ _ _ _) fun v w1 ⟨u2, hvv, hu2, hf1⟩ => ?_
    subst hvv
    have hF := hF.same hf1
    have hD := hD.same hf1
    refine ⟨u2, rfl, fun h => hf1.keep _ h fun h => h, ?_⟩
    refine ⟨hD, (by first | omega | (simp only [ByteArray.size_append, bsz_lit, List.length_cons, List.length_nil]; omega)), (by first | omega | (simp only [ByteArray.size_append, bsz_lit, List.length_cons, List.length_nil]; omega)), ?_⟩
    refine Calls.tell (commas_c (fun y hy => hk y (List.mem_cons_of_mem _ hy)) (by omega) _ ((hs.tail hv.1 hl2).frame hF fun _ _ h => h.elim)) fun v w1 ⟨u3, hvv, hu3, hf1⟩ => ?_
    subst hvv
    have hF := hF.same hf1
    have hD := hD.same hf1
    refine ⟨u3, rfl, fun h => hf1.keep _ h fun h => h, ?_⟩
    refine ⟨hD, (by first | omega | (simp only [ByteArray.size_append, bsz_lit, List.length_cons, List.length_nil]; omega)), (by first | omega | (simp only [ByteArray.size_append, bsz_lit, List.length_cons, List.length_nil]; omega)), ?_⟩
    exact ⟨_, rfl, (by first | omega | (simp only [ByteArray.size_append, bsz_lit, List.length_cons, List.length_nil]; omega)), hF⟩
  · -- XBetween
    obtain ⟨x, y, z, rfl⟩ := list3 (l := l) (by omega)
    simp only [szL] at hb ⊢
    intro w1 hf1 hl1
    have hF := hF.late hf1 (fun i hi h => by omega)
    have hD := Fr.refl (fun _ => False) w1
    refine hs.kidF hF (by omega) (by omega) fun a x' k' o' s' t' n' q ql qc hx hvx => ?_
    obtain rfl := Option.some.inj hx
    refine hs.kidF hF (by omega) (by omega) fun a y' k' o' s' t' n' q ql qc hx hvy => ?_
    obtain rfl := Option.some.inj hx
    refine hs.kidF hF (by omega) (by omega) fun a z' k' o' s' t' n' q ql qc hx hvz => ?_
    obtain rfl := Option.some.inj hx
    refine Calls.tell (at_c (hk x (by simp)) (by omega) _ _ _ _ _ _ _ _ _ _ _ (hvx.frame hF fun _ _ h => h.elim)) fun v w1 ⟨u, hvv, hu, hf1⟩ => ?_
    subst hvv
    have hF := hF.same hf1
    have hD := hD.same hf1
    refine ⟨u, rfl, fun h => hf1.keep _ h fun h => h, ?_⟩
    refine ⟨hD, (by first | omega | (simp only [ByteArray.size_append, bsz_lit, List.length_cons, List.length_nil]; omega)), ?_⟩
    refine Calls.tell (not_c _ _ _ _ _ _ _ _ _) fun v w1 ⟨u2, hvv, hu2, hf1⟩ => ?_
    subst hvv
    have hF := hF.same hf1
    have hD := hD.same hf1
    refine ⟨u2, rfl, fun h => hf1.keep _ h fun h => h, ?_⟩
    refine ⟨hD, (by first | omega | (simp only [ByteArray.size_append, bsz_lit, List.length_cons, List.length_nil]; omega)), (by first | omega | (simp only [ByteArray.size_append, bsz_lit, List.length_cons, List.length_nil]; omega)), ?_⟩
    refine Calls.tell (at_c (hk y (by simp)) (by omega) _ _ _ _ _ _ _ _ _ _ _ (hvy.frame hF fun _ _ h => h.elim)) fun v w1 ⟨u3, hvv, hu3, hf1⟩ => ?_
    subst hvv
    have hF := hF.same hf1
    have hD := hD.same hf1
    refine ⟨u3, rfl, fun h => hf1.keep _ h fun h => h, ?_⟩
    refine ⟨hD, (by first | omega | (simp only [ByteArray.size_append, bsz_lit, List.length_cons, List.length_nil]; omega)), (by first | omega | (simp only [ByteArray.size_append, bsz_lit, List.length_cons, List.length_nil]; omega)), ?_⟩
    refine Calls.tell (at_c (hk z (by simp)) (by omega) _ _ _ _ _ _ _ _ _ _ _ (hvz.frame hF fun _ _ h => h.elim)) fun v w1 ⟨u4, hvv, hu4, hf1⟩ => ?_
    subst hvv
    have hF := hF.same hf1
    have hD := hD.same hf1
    refine ⟨u4, rfl, fun h => hf1.keep _ h fun h => h, ?_⟩
    refine ⟨hD, (by first | omega | (simp only [ByteArray.size_append, bsz_lit, List.length_cons, List.length_nil]; omega)), ?_⟩
    exact ⟨_, rfl, (by first | omega | (simp only [ByteArray.size_append, bsz_lit, List.length_cons, List.length_nil]; omega)), hF⟩
  · -- XCollate
    obtain ⟨x, rfl⟩ := list1 (l := l) (by omega)
    simp only [szL] at hb ⊢
    intro w1 hf1 hl1
    have hF := hF.late hf1 (fun i hi h => by omega)
    have hD := Fr.refl (fun _ => False) w1
    refine hs.kidF hF (by omega) (by omega) fun a x' k' o' s' t' n' q ql qc hx hvx => ?_
    obtain rfl := Option.some.inj hx
    refine Calls.tell (at_c (hk x (by simp)) (by omega) _ _ _ _ _ _ _ _ _ _ _ (hvx.frame hF fun _ _ h => h.elim)) fun v w1 ⟨u, hvv, hu, hf1⟩ => ?_
    subst hvv
    have hF := hF.same hf1
    have hD := hD.same hf1
    refine ⟨u, rfl, fun h => hf1.keep _ h fun h => h, ?_⟩
    refine ⟨hD, (by first | omega | (simp only [ByteArray.size_append, bsz_lit, List.length_cons, List.length_nil]; omega)), (by first | omega | (simp only [ByteArray.size_append, bsz_lit, List.length_cons, List.length_nil]; omega)), ?_⟩
    exact ⟨_, rfl, (by first | omega | (simp only [ByteArray.size_append, bsz_lit, List.length_cons, List.length_nil]; omega)), hF⟩
  · -- XCast
    obtain ⟨x, rfl⟩ := list1 (l := l) (by omega)
    simp only [szL] at hb ⊢
    intro w1 hf1 hl1
    have hF := hF.late hf1 (fun i hi h => by omega)
    have hD := Fr.refl (fun _ => False) w1
    have hw3 : IntKind.i64.wrap (n - 1) = n - 1 := wrap_i64 (by omega) (by omega)
    rw [hw3]
    have key : ∀ (W W' : World), W' = W.alloc (.cells #[.string (⟨#[66, 79, 79, 76]⟩ : ByteArray), .string (⟨#[73, 78, 84]⟩ : ByteArray), .string (⟨#[84, 69, 88, 84]⟩ : ByteArray)] 9) →
        ∃ u : ByteArray, u.size ≤ 4 ∧ ∀ W2, Fr (fun _ => False) W' W2 → W2.cell? ((⟨W.heap.size, 0, none⟩ : Addr).add ((n - 1).toNat * 1)) = some (.string u) := by
      rintro W W' rfl
      have hbk := Blk.new W [.string (⟨#[66, 79, 79, 76]⟩ : ByteArray), .string (⟨#[73, 78, 84]⟩ : ByteArray), .string (⟨#[84, 69, 88, 84]⟩ : ByteArray)] 9
      have h3 : n = 1 ∨ n = 2 ∨ n = 3 := by omega
      rcases h3 with rfl | rfl | rfl
      · exact ⟨⟨#[66, 79, 79, 76]⟩, by simp [bsz_lit], fun W2 hW => (hbk.frame hW fun h => h).cell rfl⟩
      · exact ⟨⟨#[73, 78, 84]⟩, by simp [bsz_lit], fun W2 hW => (hbk.frame hW fun h => h).cell rfl⟩
      · exact ⟨⟨#[84, 69, 88, 84]⟩, by simp [bsz_lit], fun W2 hW => (hbk.frame hW fun h => h).cell rfl⟩
    refine hs.kidF hF (by omega) (by omega) fun a x' k' o' s' t' n' q ql qc hx hvx => ?_
    obtain rfl := Option.some.inj hx
    refine ⟨?_, ?_⟩
    · refine Calls.tell (at_c (hk x (by simp)) (by omega) _ _ _ _ _ _ _ _ _ _ _ (hvx.frame hF fun _ _ h => h.elim)) fun v w1 ⟨u, hvv, hu, hf1⟩ => ?_
      subst hvv
      have hF := hF.same hf1
      have hD := hD.same hf1
      refine ⟨u, rfl, fun h => hf1.keep _ h fun h => h, ?_⟩
      refine ⟨hD, (by first | omega | (simp only [ByteArray.size_append, bsz_lit, List.length_cons, List.length_nil]; omega)), (by first | omega | (simp only [ByteArray.size_append, bsz_lit, List.length_cons, List.length_nil]; omega)), ?_⟩
      intro w2 hw2
      obtain ⟨u2, hu2, hc2⟩ := key _ _ hw2
      have hf2 : Fr (fun _ => False) w1 w2 := by rw [hw2]; exact Fr.newBlock _ _ _
      have hF := hF.same hf2
      refine ⟨hD.same hf2, ⟨by omega, by omega⟩, u2, hc2 w2 (Fr.refl _ _), (by first | omega | (simp only [ByteArray.size_append, bsz_lit, List.length_cons, List.length_nil]; omega)), (by first | omega | (simp only [ByteArray.size_append, bsz_lit, List.length_cons, List.length_nil]; omega)), ?_⟩
      exact ⟨_, rfl, (by first | omega | (simp only [ByteArray.size_append, bsz_lit, List.length_cons, List.length_nil]; omega)), hF⟩
    · intro w2 hw2
      obtain ⟨u2, hu2, hc2⟩ := key _ _ hw2
      have hf2 : Fr (fun _ => False) w1 w2 := by rw [hw2]; exact Fr.newBlock _ _ _
      have hF := hF.same hf2
      have hD := hD.same hf2
      refine ⟨hD, ⟨by omega, by omega⟩, ?_, ?_⟩
      · refine Calls.tell (at_c (hk x (by simp)) (by omega) _ _ _ _ _ _ _ _ _ _ _ (hvx.frame hF fun _ _ h => h.elim)) fun v w1 ⟨u, hvv, hu, hf1⟩ => ?_
        subst hvv
        have hF := hF.same hf1
        have hD := hD.same hf1
        refine ⟨u, rfl, fun h => hf1.keep _ h fun h => h, ?_⟩
        refine ⟨hD, (by first | omega | (simp only [ByteArray.size_append, bsz_lit, List.length_cons, List.length_nil]; omega)), (by first | omega | (simp only [ByteArray.size_append, bsz_lit, List.length_cons, List.length_nil]; omega)), u2, hc2 _ hf1, (by first | omega | (simp only [ByteArray.size_append, bsz_lit, List.length_cons, List.length_nil]; omega)), (by first | omega | (simp only [ByteArray.size_append, bsz_lit, List.length_cons, List.length_nil]; omega)), ?_⟩
        exact ⟨_, rfl, (by first | omega | (simp only [ByteArray.size_append, bsz_lit, List.length_cons, List.length_nil]; omega)), hF⟩
      · refine ⟨u2, hc2 w2 (Fr.refl _ _), ?_⟩
        refine Calls.tell (at_c (hk x (by simp)) (by omega) _ _ _ _ _ _ _ _ _ _ _ (hvx.frame hF fun _ _ h => h.elim)) fun v w1 ⟨u, hvv, hu, hf1⟩ => ?_
        subst hvv
        have hF := hF.same hf1
        have hD := hD.same hf1
        refine ⟨u, rfl, fun h => hf1.keep _ h fun h => h, ?_⟩
        refine ⟨hD, (by first | omega | (simp only [ByteArray.size_append, bsz_lit, List.length_cons, List.length_nil]; omega)), (by first | omega | (simp only [ByteArray.size_append, bsz_lit, List.length_cons, List.length_nil]; omega)), (by first | omega | (simp only [ByteArray.size_append, bsz_lit, List.length_cons, List.length_nil]; omega)), (by first | omega | (simp only [ByteArray.size_append, bsz_lit, List.length_cons, List.length_nil]; omega)), ?_⟩
        exact ⟨_, rfl, (by first | omega | (simp only [ByteArray.size_append, bsz_lit, List.length_cons, List.length_nil]; omega)), hF⟩
  · -- XAgg with a star
    refine ⟨(by first | omega | (simp only [ByteArray.size_append, bsz_lit, List.length_cons, List.length_nil]; omega)), ?_⟩
    intro w1 hf1 hl1
    have hF := hF.late hf1 (fun i hi h => by omega)
    have hD := Fr.refl (fun _ => False) w1
    exact ⟨_, rfl, (by first | omega | (simp only [ByteArray.size_append, bsz_lit, List.length_cons, List.length_nil]; omega)), hF⟩
  · have leaf : ∀ u : ByteArray, u.size ≤ 1004 → ∀ w1 : World, Fr (fun k => k = b) w w1 → b < w1.heap.size → ∃ u', Value.string u = Value.string u' ∧ u'.size + 100 ≤ 1200 * (1 + szL l) ∧ Fr (fun _ => False) w w1 :=
      fun u hu w1 hf1 _ => ⟨u, rfl, by omega, hF.late hf1 fun i hi h => by omega⟩
    refine ⟨fun h => by simpa using h, fun hc => ?_, fun _ => ⟨fun hc => ?_, fun _ => ⟨fun hc => leaf _ (by omega), fun _ => ⟨fun hc => ?_, fun _ => ⟨fun hc => ?_, fun _ => ⟨fun hc => leaf _ (by simp [bsz_lit]), fun _ => ⟨fun hc => leaf _ (by simp [bsz_lit]), fun _ => ⟨fun hc => leaf _ (by simp [bsz_lit]), fun _ => leaf _ (by simp [bsz_lit])⟩⟩⟩⟩⟩⟩⟩⟩
    all_goals simp only [Bool.and_eq_true, beq_iff_eq, decide_eq_true_eq] at hc
    · obtain ⟨x, rfl⟩ := list1 (l := l) (by omega)
      simp only [szL] at hb ⊢
      intro w1 hf1 hl1
      have hF := hF.late hf1 (fun i hi h => by omega)
      have hD := Fr.refl (fun _ => False) w1
      refine ⟨(by first | omega | (simp only [ByteArray.size_append, bsz_lit, List.length_cons, List.length_nil]; omega)), ?_⟩
      refine hs.kidF hF (by omega) (by omega) fun a x' k' o' s' t' n' q ql qc hx hvx => ?_
      obtain rfl := Option.some.inj hx
      refine Calls.tell (at_c (hk x (by simp)) (by omega) _ _ _ _ _ _ _ _ _ _ _ (hvx.frame hF fun _ _ h => h.elim)) fun v w1 ⟨u, hvv, hu, hf1⟩ => ?_
      subst hvv
      have hF := hF.same hf1
      have hD := hD.same hf1
      refine ⟨u, rfl, fun h => hf1.keep _ h fun h => h, ?_⟩
      refine ⟨hD, (by first | omega | (simp only [ByteArray.size_append, bsz_lit, List.length_cons, List.length_nil]; omega)), (by first | omega | (simp only [ByteArray.size_append, bsz_lit, List.length_cons, List.length_nil]; omega)), ?_⟩
      exact ⟨_, rfl, (by first | omega | (simp only [ByteArray.size_append, bsz_lit, List.length_cons, List.length_nil]; omega)), hF⟩
    · refine ⟨(by first | omega | (simp only [ByteArray.size_append, bsz_lit, List.length_cons, List.length_nil]; omega)), (by first | omega | (simp only [ByteArray.size_append, bsz_lit, List.length_cons, List.length_nil]; omega)), ?_⟩
      intro w1 hf1 hl1
      have hF := hF.late hf1 (fun i hi h => by omega)
      have hD := Fr.refl (fun _ => False) w1
      exact ⟨_, rfl, (by first | omega | (simp only [ByteArray.size_append, bsz_lit, List.length_cons, List.length_nil]; omega)), hF⟩
    · intro w1 hf1 hl1
      have hF := hF.late hf1 (fun i hi h => by omega)
      have hD := Fr.refl (fun _ => False) w1
      refine Calls.tell (text1_c _ hn.1 hn.2 _) fun v w1 ⟨u, hvv, hu, hf1⟩ => ?_
      subst hvv
      have hF := hF.same hf1
      have hD := hD.same hf1
      refine ⟨u, rfl, fun h => hf1.keep _ h fun h => h, ?_⟩
      exact ⟨_, rfl, (by first | omega | (simp only [ByteArray.size_append, bsz_lit, List.length_cons, List.length_nil]; omega)), hF⟩
    · intro w1 hf1 hl1
      have hF := hF.late hf1 (fun i hi h => by omega)
      have hD := Fr.refl (fun _ => False) w1
      refine Calls.tell (vtext_c _ _) fun v w1 ⟨hvv, hf1⟩ => ?_
      subst hvv
      have hF := hF.same hf1
      refine ⟨3, 0, s, rfl, fun h => hf1.keep _ h fun h => h, ?_⟩
      refine Calls.tell (vprint_c _ (by omega) _) fun v w1 ⟨u, hvv, hu, hf1⟩ => ?_
      subst hvv
      have hF := hF.same hf1
      refine ⟨u, rfl, fun h => hf1.keep _ h fun h => h, ?_⟩
      exact ⟨_, rfl, (by first | omega | (simp only [ByteArray.size_append, bsz_lit, List.length_cons, List.length_nil]; omega)), hF⟩

mutual
theorem words_c : ∀ x : Nd, good x → rng x → sz x ≤ 1000000 → WC x
  | .mk k o s t n l, hg, hr, hb => words_of (words_cs l hg.2.2 hr.2 (by simp only [sz] at hb; omega)) ⟨hg.1, hg.2.1⟩ hr.1 hb
theorem words_cs : ∀ l : List Nd, goodL l → rngL l → szL l ≤ 1000000 → ∀ x ∈ l, WC x
  | [], _, _, _, x, h => by cases h
  | y :: l, hg, hr, hb, x, h => by
    simp only [szL] at hb
    rcases List.mem_cons.1 h with h | h
    · rw [h]; exact words_c y hg.1 hr.1 (by omega)
    · exact words_cs l hg.2 hr.2 (by omega) x h
end
end Go.Proofs.Ytjlkgedcpmoehaa
