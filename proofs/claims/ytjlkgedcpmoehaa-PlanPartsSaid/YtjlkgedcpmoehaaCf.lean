/-
  Contracts: Empty, Small, awake.
-/
import Derived.Test.YtjlkgedcpmoehaaCe
set_option linter.unusedVariables false
set_option linter.unusedSimpArgs false
set_option maxRecDepth 100000
namespace Go.Vc
mutual
/-- No text of the tree is long. -/
def good : Nd → Prop
  | .mk k o s t n l => s.size ≤ 500 ∧ t.size ≤ 50 ∧ goodL l
def goodL : List Nd → Prop
  | [] => True
  | x :: l => good x ∧ goodL l
end
mutual
/-- The numbers of the tree are such as Go's int64 holds. -/
def rng : Nd → Prop
  | .mk k o s t n l => (-9223372036854775808 ≤ n ∧ n ≤ 9223372036854775807) ∧ rngL l
def rngL : List Nd → Prop
  | [] => True
  | x :: l => rng x ∧ rngL l
end
theorem rngL_mem {l : List Nd} (h : rngL l) : ∀ x ∈ l, rng x := by
  induction l with
  | nil => simp
  | cons y l ih =>
    simp only [List.mem_cons]
    rintro x (rfl | hx)
    · exact h.1
    · exact ih h.2 x hx
theorem goodL_mem {l : List Nd} (h : goodL l) : ∀ x ∈ l, good x := by
  induction l with
  | nil => simp
  | cons y l ih =>
    simp only [List.mem_cons]
    rintro x (rfl | hx)
    · exact h.1
    · exact ih h.2 x hx
theorem goodL_take {l : List Nd} {i : Nat} {x : Nd} (hx : l[i]? = some x) (h : goodL (l.take i)) (hg : good x) : goodL (l.take (i + 1)) := by
  induction l generalizing i with
  | nil => simp at hx
  | cons y l ih =>
    cases i with
    | zero => simp at hx; subst hx; simp [goodL, hg]
    | succ i => simp at hx; simp [goodL] at h ⊢; exact ⟨h.1, ih hx h.2⟩
theorem szL_take {l : List Nd} {i : Nat} {x : Nd} (hx : l[i]? = some x) : szL (l.take (i + 1)) = szL (l.take i) + sz x := by
  induction l generalizing i with
  | nil => simp at hx
  | cons y l ih =>
    cases i with
    | zero => simp at hx; subst hx; simp [szL]
    | succ i => simp at hx; simp [szL, ih hx]; omega
end Go.Vc

namespace Go.Proofs.Ytjlkgedcpmoehaa
open Go Go.Vc

theorem empty_c (lo hi : ByteArray) (w : World) : Calls Try.prog 15 #[.agg #[.string lo, .string hi, .bool false]] w
    (Ret fun v w' => v = .bool (Op.bytesLess hi.toList lo.toList || (hi.toList == lo.toList)) ∧ Fr (fun _ => False) w w') := by
  refine Sh.plan_Empty_calls _ _ _ ?_
  unfold Sh.plan_Empty
  simp only [imp_self, true_and]
  intro b hb w1 hf _
  exact ⟨by simp, frOne hb hf⟩

def SmallC (x : Nd) : Prop := ∀ (w : World) (k o : Int) (s t : ByteArray) (n : Int) (p : Option Addr) (len cap : Nat) (deep : Int) (b : Nat) (c : Int), NdV (fun i => i = b) w x k o s t n p len cap → Blk w b [.int .i64 c] 3 → 0 ≤ c → c ≤ 300 →
  Calls Try.prog 14 #[nv k o s t n p len cap, .int .i64 deep, .pointer (some (⟨b, 0, none⟩ : Addr))] w (Ret fun v w' => ∃ r c', v = .bool r ∧ Blk w' b [.int .i64 c'] 3 ∧ Fr (fun i => i = b) w w' ∧ (r = true → 0 ≤ c' ∧ c' + sz x = c ∧ good x))

theorem small_of {k o : Int} {s t : ByteArray} {n : Int} {l : List Nd} (hl : ∀ x ∈ l, SmallC x) : SmallC (.mk k o s t n l) := by
  intro w k o s t n p len cap deep b c hv hbk h0 h1
  obtain ⟨rfl, rfl, rfl, rfl, rfl, hs⟩ := hv.inj rfl
  refine Sh.law18_small_calls _ _ _ _ _ _ _ _ _ _ ?_
  unfold Sh.law18_small
  simp only [imp_self, true_and]
  intro bn hbn w1 hf1 _
  have hlt := hbk.lt
  have hf1' := frOne hbn hf1
  have hbk1 := hbk.frame hf1' fun h => h
  refine ⟨c, hbk1.cell0, by show b ≠ bn; omega, ?_⟩
  refine store1 hbk1 0 (by simp) (.int .i64 (IntKind.i64.wrap (c - 1))) fun hbk2 hf2 => ?_
  have hc1 : IntKind.i64.wrap (c - 1) = c - 1 := wrap_i64 (by omega) (by omega)
  rw [hc1] at hbk2 hf2 ⊢
  have hf12 : Fr (fun i => i = b) w (w1.setCell ((⟨b, 0, none⟩ : Addr).add 0) (.int .i64 (c - 1))) := hf1'.trans hf2 (fun _ _ h => h.elim) fun i _ h => h
  refine ⟨c - 1, hbk2.cell0, fun h => by simpa using h, fun h => by simpa using h, fun h => by simpa using h, fun h => by simpa using h, fun hc => ⟨false, c - 1, rfl, hbk2, hf12, fun h => by cases h⟩, fun hc => ?_⟩
  simp at hc
  obtain ⟨⟨⟨⟨h2, h3⟩, h4⟩, h5⟩, h6⟩ := hc
  refine ⟨fun i w' => 0 ≤ i ∧ i ≤ (len : Int) ∧ Fr (fun i => i = b) w w' ∧ ∃ c', Blk w' b [.int .i64 c'] 3 ∧ 0 ≤ c' ∧ c' + 1 + szL (l.take i.toNat) = c ∧ goodL (l.take i.toNat), fun i _ => len - i.toNat,
    ⟨by omega, by omega, hf12, c - 1, hbk2, by omega, by simp [szL], by simp [goodL]⟩, ?_⟩
  rintro i w3 ⟨i0, i1, hf3, c3, hbk3, hc3, hsum, hg⟩
  refine ⟨fun hlt => ?_, fun hge => ?_⟩
  · simp only [decide_eq_true_eq] at hlt
    obtain ⟨a, x, rfl, hx, hR⟩ := (hs.frame hf3 fun _ _ h => h).at i0 hlt
    refine ⟨a, rfl, ⟨i0, hlt⟩, hR.load fun k' o' s' t' n' p' len' cap' hv' => ?_⟩
    refine Calls.tell (hl x (List.mem_of_getElem? hx) w3 _ _ _ _ _ _ _ _ _ b c3 hv' hbk3 hc3 (by omega)) fun v w4 ⟨r, c4, hr, hbk4, hf4, h4⟩ => ?_
    subst hr
    refine ⟨r, rfl, fun hlt => hf4.keep _ hlt fun h => by omega, fun hr => ⟨false, c4, rfl, hbk4, hf3.same hf4, fun h => by cases h⟩, fun hr => ?_⟩
    have hr' : r = true := by simpa using hr
    obtain ⟨g1, g2, g3⟩ := h4 hr'
    rw [i64_succ i0 hlt (by omega)]
    refine ⟨⟨by omega, by omega, hf3.same hf4, c4, hbk4, g1, ?_, ?_⟩, by dsimp only; omega⟩
    · rw [show (i + 1).toNat = i.toNat + 1 from by omega, szL_take hx]; omega
    · rw [show (i + 1).toNat = i.toNat + 1 from by omega]; exact goodL_take hx hg g3
  · simp only [decide_eq_false_iff_not] at hge
    rw [List.take_of_length_le (by rw [← hs.1]; omega)] at hsum hg
    refine ⟨true, c3, rfl, hbk3, hf3, fun _ => ⟨hc3, by simp [sz]; omega, ?_⟩⟩
    simp only [good]
    exact ⟨by omega, by omega, hg⟩

mutual
theorem small_c : ∀ x : Nd, SmallC x
  | .mk k o s t n l => small_of (small_cs l)
theorem small_cs : ∀ l : List Nd, ∀ x ∈ l, SmallC x
  | [], x, h => by cases h
  | y :: l, x, h => by
    rcases List.mem_cons.1 h with h | h
    · rw [h]; exact small_c y
    · exact small_cs l x h
end

theorem Small_c {μ : Nat → Prop} {w : World} {x : Nd} {k o : Int} {s t : ByteArray} {n : Int} {p : Option Addr} {len : Nat} (cap : Nat) (deep : Int) (hv : NdV μ w x k o s t n p len cap) :
    Calls Try.prog 4 #[nv k o s t n p len cap, .int .i64 deep] w (Ret fun v w' => ∃ r, v = .bool r ∧ Fr (fun _ => False) w w' ∧ (r = true → sz x ≤ 300 ∧ good x)) := by
  refine Sh.law18_Small_calls _ _ _ _ _ _ _ _ _ ?_
  unfold Sh.law18_Small
  intro b hb w1 hf1 hlt
  have hf1' := frOne hb hf1
  rintro w2 rfl
  have hbk : Blk (w1.alloc (.cells #[.int .i64 (0 : Int)] 3)) w1.heap.size [.int .i64 0] 3 := Blk.new w1 [.int .i64 0] 3
  refine ⟨by show w1.heap.size ≠ b; omega, ?_⟩
  refine store1 hbk 0 (by simp) (.int .i64 300) fun hbk2 hf2 => ?_
  have hf0 : Fr (fun _ => False) w1 (w1.alloc (.cells #[.int .i64 (0 : Int)] 3)) := Fr.newBlock _ _ _
  have hz := hf1'.size
  have hnv := ((hv.anti (ν := fun i => w.heap.size ≤ i) fun i hi h => by omega).frame (hf1'.same hf0) fun _ _ h => h.elim).frame hf2 fun i hi h => by subst h; exact hz
  refine Calls.tell (small_c x _ _ _ _ _ _ _ _ _ deep w1.heap.size 300 (hnv.anti fun i hi h => by subst h; exact hz) hbk2 (by omega) (by omega)) fun v w3 ⟨r, c', hr, _, hf3, h3⟩ => ?_
  subst hr
  refine ⟨r, rfl, fun h => hf3.keep _ h fun h => by omega, r, rfl, ?_, fun hr => ?_⟩
  · exact ((hf1'.same hf0).trans hf2 (fun _ _ h => h) fun i hi h => by omega).trans hf3 (fun _ _ h => h) fun i hi h => by omega
  · obtain ⟨g1, g2, g3⟩ := h3 hr
    exact ⟨by omega, g3⟩
end Go.Proofs.Ytjlkgedcpmoehaa
