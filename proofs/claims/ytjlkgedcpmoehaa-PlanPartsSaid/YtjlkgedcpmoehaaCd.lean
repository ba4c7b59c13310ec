/-
  Contracts: Grow, Concat, Conjuncts, conjuncts.
-/
import Derived.Test.YtjlkgedcpmoehaaCc
set_option linter.unusedVariables false
set_option linter.unusedSimpArgs false
set_option maxRecDepth 100000
namespace Go.Proofs.Ytjlkgedcpmoehaa
open Go Go.Vc

theorem zero24 (w : World) (n : Nat) : (Builtin.zeroCells T24.z.cells n).size = n * 6 := by rw [size_zeroCells, T24.zs]

theorem grow_c (μ : Nat → Prop) (n : Nat) (w : World) (hn : n ≤ 1000000000) : Calls Try.prog 32 #[.slice none 0 0, .int .i64 (n : Nat)] w (Ret fun v w' => OwnS μ w' w.heap.size 24 [] v ∧ Fr (fun _ => False) w w') := by
  refine Sh.slices_Grow_api_Node_api_Node_calls _ _ _ _ ?_
  unfold Sh.slices_Grow_api_Node_api_Node
  have h0 : IntKind.i64.wrap ((n : Int) - IntKind.i64.wrap ((0 : Nat) - ((0 : Nat) : Int))) = n := by rw [IntKind.wrap_i64, IntKind.wrap_i64]; omega
  refine ⟨fun h => ?_, fun _ => ⟨(0 : Nat), w, run_cap_slice w 22 3 none 0 0 und22, fun hc => ⟨(0 : Nat), w, run_cap_slice w 22 3 none 0 0 und22, ⟨by omega, by omega⟩, ?_⟩, fun hc => ?_⟩⟩
  · simp only [decide_eq_true_eq] at h; omega
  · rw [h0] at hc ⊢
    simp only [decide_eq_true_eq] at hc
    have hr := Lib.run_append_nil_zeros (P := Try.prog) w 22 3 22 24 T24.i T24.z .i64 .i64 T24.ht und3 T24.hi T24.hz n (by omega) (by rw [T24.size]; omega) (by omega) (by rw [T24.bytes]; omega)
    have hg := grownCap_ge w n 0 24
    have hm := grownCap_le_maxLen w n 0 24 (by simp only [maxLen]; omega)
    refine ⟨_, _, _, _, hr, ⟨by omega, by omega⟩, ?_, ?_⟩
    · refine ⟨[], ⟨rfl, .inr ⟨w.heap.size, grownCap w n 0 24, _, ?_, Nat.le_refl _, heap_alloc_new w.drew _, Nat.zero_le _, hm, ?_, rfl⟩⟩, rfl⟩
      · simp [add_zero']
      · rw [Array.size_append, zero24 w, zero24 w]; omega
    · exact ⟨rfl, rfl, rfl, by simp, fun k hk _ => heap_alloc_old w.drew _ k hk⟩
  · rw [h0] at hc
    simp only [decide_eq_false_iff_not] at hc
    exact ⟨OwnS.nil _ _ _ _, Fr.refl _ _⟩

theorem concat_c {μ : Nat → Prop} {w : World} {l m : List Nd} {p q : Option Addr} {pl pc ql qc b : Nat} (hμ : ∀ i, μ i → i < w.heap.size) (hl : NdS μ w l p pl) (hm : NdS μ w m q ql) (hp : p = none → pc = 0) (hq : q = none → qc = 0)
    (hb : Blk w b [.slice p pl pc, .slice q ql qc] 22) (hlen : l.length + m.length ≤ 1000000000) :
    Calls Try.prog 19 #[.slice (some (⟨b, 0, none⟩ : Addr)) 2 2] w (Ret fun v w' => OwnS μ w' w.heap.size 24 (l ++ m) v ∧ Fr (fun _ => False) w w') := by
  refine Sh.slices_Concat_api_Node_api_Node_calls _ _ _ ?_
  unfold Sh.slices_Concat_api_Node_api_Node
  have hl1 := hl.1
  have hm1 := hm.1
  subst hl1 hm1
  refine ⟨fun size i w' => w' = w ∧ 0 ≤ i ∧ i ≤ 2 ∧ size = if i = 0 then (0 : Int) else if i = 1 then l.length else ((l.length + m.length : Nat) : Int), fun _ i _ => 2 - i.toNat, ⟨rfl, by omega, by omega, by simp⟩, ?_⟩
  rintro size i w1 ⟨rfl, h0, h1, hs⟩
  refine ⟨fun hlt => ?_, fun hge => ?_⟩
  · simp only [decide_eq_true_eq] at hlt
    refine ⟨_, rfl, ⟨h0, hlt⟩, ?_⟩
    have : i = 0 ∨ i = 1 := by omega
    rcases this with rfl | rfl
    · simp at hs; subst hs
      refine ⟨p, l.length, pc, hb.cell (i := 0) rfl, fun h => ?_, fun _ => ?_⟩
      · rw [wrap_i64 (by omega) (by omega)] at h; simp at h; omega
      · rw [wrap_i64 (by omega) (by omega), wrap_i64 (by omega) (by omega)]
        exact ⟨⟨rfl, by omega, by omega, by simp⟩, by dsimp only; omega⟩
    · simp at hs; subst hs
      refine ⟨q, m.length, qc, hb.cell (i := 1) rfl, fun h => ?_, fun _ => ?_⟩
      · rw [wrap_i64 (by omega) (by omega)] at h; simp at h; omega
      · rw [wrap_i64 (by omega) (by omega), wrap_i64 (by omega) (by omega)]
        exact ⟨⟨rfl, by omega, by omega, by simp⟩, by dsimp only; omega⟩
  · simp only [decide_eq_false_iff_not] at hge
    have hi : i = 2 := by omega
    subst hi
    simp at hs
    have hs' : size = ((l.length + m.length : Nat) : Int) := by omega
    rw [hs']
    refine Calls.tell (grow_c μ _ w1 hlen) fun v w2 ⟨ho, hf⟩ => ?_
    obtain ⟨p0, c0, rfl⟩ := ho.shape
    refine ⟨p0, _, c0, rfl, fun a al ac i w' => Fr (fun _ => False) w1 w' ∧ 0 ≤ i ∧ i ≤ 2 ∧ OwnS μ w' w1.heap.size 24 (if i = 0 then [] else if i = 1 then l else l ++ m) (.slice a al ac), fun _ _ _ i _ => 2 - i.toNat, ⟨hf, by omega, by omega, ho⟩, ?_⟩
    rintro a al ac i w3 ⟨hf3, h0, h1, ho3⟩
    refine ⟨fun hlt => ?_, fun hge => ?_⟩
    · simp only [decide_eq_true_eq] at hlt
      refine ⟨_, rfl, ⟨h0, hlt⟩, ?_⟩
      have hb3 := hb.frame hf3 fun h => h
      have hsub : ∀ k, k < w1.heap.size → (μ k ∨ (Value.slice a al ac).ownBlock = some k) → μ k := by
        rintro k hk (h | h)
        · exact h
        · have := (ho3.block h).1; omega
      have : i = 0 ∨ i = 1 := by omega
      rcases this with rfl | rfl
      · simp only [if_true] at ho3
        obtain ⟨v', w4, hr, ho4, hf4⟩ := ho3.append T24 22 ((hl.anti hsub).frame hf3 fun _ _ h => h.elim) hp hf3.size (by simp; omega)
        obtain ⟨p4, c4, rfl⟩ := ho4.shape
        refine ⟨p, l.length, pc, hb3.cell (i := 0) rfl, p4, _, c4, w4, hr, ?_⟩
        rw [wrap_i64 (by omega) (by omega)]
        refine ⟨⟨hf3.trans hf4 (fun _ _ h => h) fun k hk h => by have := (ho3.block h).1; omega, by omega, by omega, ?_⟩, by dsimp only; omega⟩
        simpa using ho4
      · simp only [if_true, if_false, show ((1 : Int) = 0) = False from by simp] at ho3
        obtain ⟨v', w4, hr, ho4, hf4⟩ := ho3.append T24 22 ((hm.anti hsub).frame hf3 fun _ _ h => h.elim) hq hf3.size (by omega)
        obtain ⟨p4, c4, rfl⟩ := ho4.shape
        refine ⟨q, m.length, qc, hb3.cell (i := 1) rfl, p4, _, c4, w4, hr, ?_⟩
        rw [wrap_i64 (by omega) (by omega)]
        refine ⟨⟨hf3.trans hf4 (fun _ _ h => h) fun k hk h => by have := (ho3.block h).1; omega, by omega, by omega, ?_⟩, by dsimp only; omega⟩
        simpa using ho4
    · simp only [decide_eq_false_iff_not] at hge
      have hi : i = 2 := by omega
      subst hi
      exact ⟨by simpa using ho3, hf3⟩

/-- One node in a new row. -/
theorem own_one {μ : Nat → Prop} {w : World} {base : Nat} {x : Nd} {k o : Int} {s t : ByteArray} {n : Int} {p : Option Addr} {len cap : Nat} (hb : base ≤ w.heap.size) (h : NdV μ w x k o s t n p len cap) :
    OwnS μ (w.alloc (.cells #[.int .i64 k, .int .i64 o, .string s, .string t, .int .i64 n, .slice p len cap] 24)) base 24 [x] (.slice (some (⟨w.heap.size, 0, none⟩ : Addr)) 1 1) :=
  OwnS.lit (l := [x]) (xs := [.int .i64 k, .int .i64 o, .string s, .string t, .int .i64 n, .slice p len cap]) hb (by simp [maxLen]) ⟨k, o, s, t, n, p, len, cap, [], rfl, h, rfl⟩

def ConjsC (x : Nd) : Prop := ∀ (μ : Nat → Prop) (w : World) (A : Addr), (∀ i, μ i → i < w.heap.size) → NdR μ w x A → sz x ≤ 1000000000 →
  Calls Try.prog 7 #[.pointer (some A)] w (Ret fun v w' => ∃ p len cap, v = .slice p len cap ∧ NdS μ w' (conjF x) p len ∧ (p = none → cap = 0) ∧ len ≤ cap ∧ Fr (fun _ => False) w w')

theorem conjs_c : ∀ (c : Nat) (x : Nd), sz x ≤ c → ConjsC x
  | 0, x, h => by have := sz_pos x; omega
  | c + 1, .mk k o s t n l, hc => by
    intro μ w A hμ hx hb
    obtain ⟨hA, h0, h1, h2, h3, h4, p, len, cap, h5, hle, hlen, hrow⟩ := hx
    have hs : NdS μ w l p len := ⟨hlen, hrow⟩
    have hv : NdV μ w (.mk k o s t n l) k o s t n p len cap := ⟨hle, l, rfl, hs⟩
    refine Sh.plan_Conjuncts_calls A ?_
    unfold Sh.plan_Conjuncts
    simp only [imp_self, true_and]
    have one : ¬ (k = 6 ∧ o = 18 ∧ l.length = 2) → ∀ w1, w1 = w.alloc (.cells #[.int .i64 k, .int .i64 o, .string s, .string t, .int .i64 n, .slice p len cap] 24) →
        ∃ p' len' cap', Value.slice (some (⟨w.heap.size, 0, none⟩ : Addr)) 1 1 = .slice p' len' cap' ∧ NdS μ w1 (conjF (.mk k o s t n l)) p' len' ∧ (p' = none → cap' = 0) ∧ len' ≤ cap' ∧ Fr (fun _ => False) w w1 := by
      rintro hn w1 rfl
      rw [conjF_other hn]
      exact ⟨_, 1, 1, rfl, (own_one (Nat.le_refl _) hv).nds hμ, by simp, by omega, Fr.newBlock _ _ _⟩
    refine ⟨k, h0, fun hk => ⟨k, h0, o, h1, s, h2, t, h3, n, h4, p, len, cap, h5, one fun h => ?_⟩, fun hk => ⟨by simpa using hk, o, h1, fun ho => ⟨k, h0, o, h1, s, h2, t, h3, n, h4, p, len, cap, h5, one fun h => ?_⟩, fun ho => ⟨by simpa using ho, p, len, cap, h5, fun hl => ⟨k, h0, o, h1, s, h2, t, h3, n, h4, p, len, cap, h5, one fun h => ?_⟩, fun hl => ?_⟩⟩⟩
    · simp at hk; exact hk h.1
    · simp at ho; exact ho h.2.1
    · have := hs.1; simp at hl; omega
    have hk6 : k = 6 := by simpa using hk
    have ho18 : o = 18 := by simpa using ho
    subst hk6 ho18
    have hl2 : l.length = 2 := by have := hs.1; simp at hl; omega
    match l, hl2 with
    | [x, y], _ =>
      have hlen2 : len = 2 := hs.1
      subst hlen2
      intro w1 hf1
      have hs1 := hs.frame hf1 fun _ _ h => h.elim
      have hc5 := hf1.cell h5 fun h => h
      obtain ⟨a, hpa, hRx⟩ := hs1.get (j := 0) (x := x) rfl
      obtain ⟨a', hpa', hRy⟩ := hs1.get (j := 1) (x := y) rfl
      subst hpa
      cases hpa'
      simp only [sz, szL] at hc hb
      refine ⟨_, _, _, hc5, a, rfl, ⟨by omega, by omega⟩, _, _, _, hc5, a, rfl, ⟨by omega, by omega⟩, ?_⟩
      have hμ1 : ∀ i, μ i → i < w1.heap.size := fun i hi => Nat.lt_of_lt_of_le (hμ i hi) hf1.size
      refine Calls.tell (conjs_c c x (by omega) μ w1 _ hμ1 hRx (by omega)) fun v w2 ⟨p1, l1, c1, hv1, hn1, hz1, _, hf2⟩ => ?_
      subst hv1
      refine ⟨p1, l1, c1, rfl, hf2, ?_⟩
      refine Calls.tell (conjs_c c y (by omega) μ w2 _ (fun i hi => Nat.lt_of_lt_of_le (hμ1 i hi) hf2.size) (hRy.frame hf2 fun _ _ h => h.elim) (by omega)) fun v w3 ⟨p2, l2, c2, hv2, hn2, hz2, _, hf3⟩ => ?_
      subst hv2
      refine ⟨p2, l2, c2, rfl, hf2.same hf3, ?_⟩
      rintro w4 rfl
      have hf4 : Fr (fun _ => False) w3 (w3.alloc (.cells #[.slice p1 l1 c1, .slice p2 l2 c2] 22)) := Fr.newBlock _ _ _
      refine ⟨(hf2.same hf3).same hf4, ?_⟩
      have hbl : Blk (w3.alloc (.cells #[.slice p1 l1 c1, .slice p2 l2 c2] 22)) w3.heap.size [.slice p1 l1 c1, .slice p2 l2 c2] 22 := Blk.new w3 [.slice p1 l1 c1, .slice p2 l2 c2] 22
      have hsx := conjF_sz _ x (Nat.le_refl _)
      have hsy := conjF_sz _ y (Nat.le_refl _)
      have hlx := szL_len (conjF x)
      have hly := szL_len (conjF y)
      have hall := (hf1.same hf2).same (hf3.same hf4)
      refine Calls.tell (concat_c (fun i hi => Nat.lt_of_lt_of_le (hμ i hi) hall.size) (hn1.frame (hf3.same hf4) fun _ _ h => h.elim) (hn2.frame hf4 fun _ _ h => h.elim) hz1 hz2 hbl (by omega)) fun v w5 ⟨ho5, hf5⟩ => ?_
      have hn5 := ho5.shape
      obtain ⟨p5, c5, rfl⟩ := hn5
      refine ⟨p5, _, c5, rfl, ((hf2.same hf3).same hf4).same hf5, ?_⟩
      have hnd := ho5.nds (fun i hi => Nat.lt_of_lt_of_le (hμ i hi) hall.size)
      have hle : (conjF x ++ conjF y).length ≤ c5 := by
        obtain ⟨xs, ho, _⟩ := ho5
        rcases ho.2 with ⟨h, h'⟩ | ⟨g, cap, cur, h, _, _, h', _⟩
        · omega
        · cases h; exact h'
      refine Calls.tell (clip_c p5 _ c5 w5 hle) fun v w6 ⟨hv6, hw6⟩ => ?_
      subst hv6 hw6
      refine ⟨p5, _, _, rfl, ((hf2.same hf3).same hf4).same hf5, p5, _, _, rfl, ?_, fun hp => ?_, Nat.le_refl _, hall.same hf5⟩
      · rw [conjF_and]; exact hnd
      · subst hp
        obtain ⟨xs, ho, _⟩ := ho5
        rcases ho.2 with ⟨h, h'⟩ | ⟨g, cap, cur, h, _⟩
        · exact h'
        · cases h
end Go.Proofs.Ytjlkgedcpmoehaa
