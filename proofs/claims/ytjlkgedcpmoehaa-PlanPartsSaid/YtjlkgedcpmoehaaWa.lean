/-
  Contracts of the document's own printing: the leaves.
-/
import Derived.Test.YtjlkgedcpmoehaaCh
import Derived.Test.YtjlkgedcpmoehaaShW
set_option linter.unusedVariables false
set_option linter.unusedSimpArgs false
set_option maxRecDepth 100000
namespace Go.Vc

theorem bsz_mk (a : Array UInt8) : (⟨a⟩ : ByteArray).size = a.size := rfl

/-- Later worlds, seen from an earlier one. -/
theorem Fr.late {M : Nat → Prop} {w w1 w2 : World} (h : Fr (fun _ => False) w w1) (h2 : Fr M w1 w2) (hM : ∀ i, i < w.heap.size → M i → False) : Fr (fun _ => False) w w2 := h.trans h2 (fun _ _ h => h) hM

theorem NdR.loadF {μ : Nat → Prop} {w w' : World} {x : Nd} {A : Addr} (h : NdR μ w x A) (hF : Fr (fun _ => False) w w') {F : Int → Int → ByteArray → ByteArray → Int → Option Addr → Nat → Nat → Prop}
    (hk : ∀ k o s t n p len cap, NdV μ w x k o s t n p len cap → F k o s t n p len cap) :
    ∃ k : Int, w'.cell? A = some (.int .i64 k) ∧ (∃ o : Int, w'.cell? (A.add 1) = some (.int .i64 o) ∧ (∃ s : ByteArray, w'.cell? (A.add 2) = some (.string s) ∧ (∃ t : ByteArray, w'.cell? (A.add 3) = some (.string t) ∧ (
    ∃ n : Int, w'.cell? (A.add 4) = some (.int .i64 n) ∧ (∃ (p : Option Addr) (len cap : Nat), w'.cell? (A.add 5) = some (.slice p len cap) ∧ (F k o s t n p len cap)))))) := by
  obtain ⟨k, o, s, t, n, p, len, cap, h0, h1, h2, h3, h4, h5, h6, h7⟩ := h.cells
  exact ⟨k, hF.cell h1 fun h => h, o, hF.cell h2 fun h => h, s, hF.cell h3 fun h => h, t, hF.cell h4 fun h => h, n, hF.cell h5 fun h => h, p, len, cap, hF.cell h6 fun h => h, hk _ _ _ _ _ _ _ _ h7⟩

theorem NdS.kidA {μ : Nat → Prop} {w : World} {l : List Nd} {p : Option Addr} {len : Nat} (h : NdS μ w l p len) {j : Int} (h0 : 0 ≤ j) (h1 : j < (len : Int)) {F : Addr → Prop}
    (hk : ∀ a x, l[j.toNat]? = some x → NdR μ w x (a.add (j.toNat * 6)) → F a) : ∃ a : Addr, p = some a ∧ ((0 ≤ j ∧ j < (len : Int)) ∧ (F a)) := by
  obtain ⟨a, x, h2, h3, h4⟩ := h.at h0 h1
  exact ⟨a, h2, ⟨h0, h1⟩, hk a x h3 h4⟩

theorem NdS.kidF {μ : Nat → Prop} {w w' : World} {l : List Nd} {p : Option Addr} {len : Nat} (h : NdS μ w l p len) (hF : Fr (fun _ => False) w w') {j : Int} (h0 : 0 ≤ j) (h1 : j < (len : Int)) {F : Addr → Int → Int → ByteArray → ByteArray → Int → Option Addr → Nat → Nat → Prop}
    (hk : ∀ a x k o s t n q ql qc, l[j.toNat]? = some x → NdV μ w x k o s t n q ql qc → F a k o s t n q ql qc) : ∃ a : Addr, p = some a ∧ ((0 ≤ j ∧ j < (len : Int)) ∧ (
    ∃ k : Int, w'.cell? (a.add (j.toNat * 6)) = some (.int .i64 k) ∧ (∃ o : Int, w'.cell? ((a.add (j.toNat * 6)).add 1) = some (.int .i64 o) ∧ (∃ s : ByteArray, w'.cell? ((a.add (j.toNat * 6)).add 2) = some (.string s) ∧ (∃ t : ByteArray, w'.cell? ((a.add (j.toNat * 6)).add 3) = some (.string t) ∧ (
    ∃ n : Int, w'.cell? ((a.add (j.toNat * 6)).add 4) = some (.int .i64 n) ∧ (∃ (q : Option Addr) (ql qc : Nat), w'.cell? ((a.add (j.toNat * 6)).add 5) = some (.slice q ql qc) ∧ (F a k o s t n q ql qc)))))))) :=
  h.kidA h0 h1 fun a x hx hR => hR.loadF hF fun k o s t n q ql qc hv => hk a x k o s t n q ql qc hx hv
end Go.Vc

namespace Go.Proofs.Ytjlkgedcpmoehaa
open Go Go.Vc

theorem level_c (k o : Int) (s t : ByteArray) (n : Int) (p : Option Addr) (len cap : Nat) (w : World) : Calls Try.prog 21 #[nv k o s t n p len cap] w (Ret fun v w' => ∃ i, v = .int .i64 i ∧ Fr (fun _ => False) w w') := by
  refine Sh.ref18_Level_calls _ _ _ _ _ _ _ _ ?_
  unfold Sh.ref18_Level
  intro b hb
  repeat' (first | refine ⟨fun h => ?_, fun h => ?_⟩ | exact fun w1 hf hlt => ⟨_, rfl, frOne hb hf⟩)

theorem opName_c (op : Int) (w : World) : Calls Try.prog 23 #[.int .i64 op] w (Ret fun v w' => ∃ u : ByteArray, v = .string u ∧ u.size ≤ 3 ∧ Fr (fun _ => False) w w') := by
  refine Sh.ref18_opName_calls _ ?_
  unfold Sh.ref18_opName
  simp only [imp_self, true_and]
  rintro w1 hw1
  have hf : Fr (fun _ => False) w w1 := by rw [hw1]; exact Fr.newBlock _ _ _
  refine ⟨fun h => by simpa using h, fun _ => ⟨_, rfl, by simp [bsz_mk], hf⟩, fun h => ?_⟩
  simp at h
  refine ⟨⟨by omega, by simp; omega⟩, ?_⟩
  have hb := Blk.new w [.string (⟨#[]⟩ : ByteArray), .string (⟨#[61]⟩ : ByteArray), .string (⟨#[60, 62]⟩ : ByteArray), .string (⟨#[60]⟩ : ByteArray), .string (⟨#[60, 61]⟩ : ByteArray), .string (⟨#[62]⟩ : ByteArray), .string (⟨#[62, 61]⟩ : ByteArray), .string (⟨#[43]⟩ : ByteArray), .string (⟨#[45]⟩ : ByteArray), .string (⟨#[42]⟩ : ByteArray), .string (⟨#[47]⟩ : ByteArray), .string (⟨#[37]⟩ : ByteArray), .string (⟨#[60, 60]⟩ : ByteArray), .string (⟨#[62, 62]⟩ : ByteArray), .string (⟨#[38]⟩ : ByteArray), .string (⟨#[124]⟩ : ByteArray), .string (⟨#[94]⟩ : ByteArray), .string (⟨#[124, 124]⟩ : ByteArray), .string (⟨#[65, 78, 68]⟩ : ByteArray), .string (⟨#[79, 82]⟩ : ByteArray), .string (⟨#[]⟩ : ByteArray), .string (⟨#[]⟩ : ByteArray), .string (⟨#[88, 79, 82]⟩ : ByteArray)] 9
  rw [← hw1] at hb
  have key : ∀ i : Nat, i < 23 → ∃ u : ByteArray, ([.string (⟨#[]⟩ : ByteArray), .string (⟨#[61]⟩ : ByteArray), .string (⟨#[60, 62]⟩ : ByteArray), .string (⟨#[60]⟩ : ByteArray), .string (⟨#[60, 61]⟩ : ByteArray), .string (⟨#[62]⟩ : ByteArray), .string (⟨#[62, 61]⟩ : ByteArray), .string (⟨#[43]⟩ : ByteArray), .string (⟨#[45]⟩ : ByteArray), .string (⟨#[42]⟩ : ByteArray), .string (⟨#[47]⟩ : ByteArray), .string (⟨#[37]⟩ : ByteArray), .string (⟨#[60, 60]⟩ : ByteArray), .string (⟨#[62, 62]⟩ : ByteArray), .string (⟨#[38]⟩ : ByteArray), .string (⟨#[124]⟩ : ByteArray), .string (⟨#[94]⟩ : ByteArray), .string (⟨#[124, 124]⟩ : ByteArray), .string (⟨#[65, 78, 68]⟩ : ByteArray), .string (⟨#[79, 82]⟩ : ByteArray), .string (⟨#[]⟩ : ByteArray), .string (⟨#[]⟩ : ByteArray), .string (⟨#[88, 79, 82]⟩ : ByteArray)] : List Value)[i]? = some (.string u) ∧ u.size ≤ 3 := by
    intro i hi
    match i, hi with
    | i + 23, h => omega
    | 0, _ | 1, _ | 2, _ | 3, _ | 4, _ | 5, _ | 6, _ | 7, _ | 8, _ | 9, _ | 10, _ | 11, _ | 12, _ | 13, _ | 14, _ | 15, _ | 16, _ | 17, _ | 18, _ | 19, _ | 20, _ | 21, _ | 22, _ => exact ⟨_, rfl, by simp [bsz_mk]⟩
  obtain ⟨u, h1, h2⟩ := key op.toNat (by omega)
  exact ⟨u, by rw [Nat.mul_one]; exact hb.cell h1, u, rfl, h2, hf⟩

theorem not_c (k o : Int) (s t : ByteArray) (n : Int) (p : Option Addr) (len cap : Nat) (w : World) : Calls Try.prog 24 #[nv k o s t n p len cap] w (Ret fun v w' => ∃ u : ByteArray, v = .string u ∧ u.size ≤ 4 ∧ Fr (fun _ => False) w w') := by
  refine Sh.ref18_not_calls _ _ _ _ _ _ _ _ ?_
  unfold Sh.ref18_not
  intro b hb
  exact ⟨fun _ w1 hf _ => ⟨_, rfl, by simp [bsz_mk], frOne hb hf⟩, fun _ w1 hf _ => ⟨_, rfl, by simp [bsz_mk], frOne hb hf⟩⟩

theorem text1_pos (x : Int) (h0 : 0 ≤ x) (h1 : x ≤ 9223372036854775807) (w : World) : Calls Try.prog 26 #[.int .i64 x] w (Ret fun v w' => ∃ u : ByteArray, v = .string u ∧ u.size ≤ 20 ∧ Fr (fun _ => False) w w') := by
  refine Sh.ref1_Text_calls _ ?_
  unfold Sh.ref1_Text
  refine ⟨fun h => by simp at h; omega, fun _ => ⟨fun h => by simp at h; omega, fun _ => ?_⟩⟩
  refine ⟨fun s y w' => w' = w ∧ 0 ≤ y ∧ ∃ c : Nat, c ≤ 18 ∧ s.size + c ≤ 18 ∧ y < 10 ^ (c + 1), fun _ y _ => y.toNat, ⟨rfl, h0, 18, by omega, by simp [bsz_mk], by omega⟩, ?_⟩
  rintro s y w1 ⟨rfl, hy0, c, hc, hs, hy⟩
  have hpow : (10 : Int) ^ (c + 1) ≤ 10 ^ 19 := by
    have := Nat.pow_le_pow_right (n := 10) (by omega) (show c + 1 ≤ 19 by omega)
    exact_mod_cast this
  refine ⟨fun h => ?_, fun h => ?_⟩
  · simp only [decide_eq_true_eq] at h
    have hm : y.tmod 10 = y % 10 := Int.tmod_eq_emod_of_nonneg hy0
    have hd : y.tdiv 10 = y / 10 := Int.tdiv_eq_ediv_of_nonneg hy0
    rw [hm, hd]
    have hw1 : IntKind.i64.wrap (y % 10 + 1) = y % 10 + 1 := wrap_i64 (by omega) (by omega)
    have hw2 : IntKind.i64.wrap (y / 10) = y / 10 := wrap_i64 (by omega) (by omega)
    rw [hw1, hw2]
    have hsz : ((⟨#[48, 49, 50, 51, 52, 53, 54, 55, 56, 57]⟩ : ByteArray).extract (y % 10).toNat (y % 10 + 1).toNat).size = 1 := by
      rw [ByteArray.size_extract, bsz_mk]; simp; omega
    have hc1 : 1 ≤ c := by
      rcases Nat.eq_zero_or_pos c with rfl | h
      · simp at hy; omega
      · exact h
    refine ⟨by omega, ⟨by omega, by omega, by simp [bsz_mk]; omega⟩, by rw [hsz]; omega, by omega, ⟨rfl, by omega, c - 1, by omega, by rw [ByteArray.size_append, hsz]; omega, ?_⟩, by dsimp only; omega⟩
    have : (10 : Int) ^ (c + 1) = 10 ^ (c - 1 + 1) * 10 := by rw [show c + 1 = (c - 1 + 1) + 1 from by omega, Int.pow_succ]
    rw [this] at hy
    omega
  · simp only [decide_eq_false_iff_not] at h
    have hw1 : IntKind.i64.wrap (y + 1) = y + 1 := wrap_i64 (by omega) (by omega)
    rw [hw1]
    have hsz : ((⟨#[48, 49, 50, 51, 52, 53, 54, 55, 56, 57]⟩ : ByteArray).extract y.toNat (y + 1).toNat).size = 1 := by
      rw [ByteArray.size_extract, bsz_mk]; simp; omega
    exact ⟨⟨by omega, by omega, by simp [bsz_mk]; omega⟩, by rw [hsz]; omega, _, rfl, by rw [ByteArray.size_append, hsz]; omega, Fr.refl _ _⟩

theorem text1_c (x : Int) (h0 : -9223372036854775808 ≤ x) (h1 : x ≤ 9223372036854775807) (w : World) : Calls Try.prog 26 #[.int .i64 x] w (Ret fun v w' => ∃ u : ByteArray, v = .string u ∧ u.size ≤ 21 ∧ Fr (fun _ => False) w w') := by
  by_cases hx : 0 ≤ x
  · exact Calls.tell (text1_pos x hx h1 w) fun v w' ⟨u, h2, h3, h4⟩ => ⟨_, rfl, u, h2, by omega, h4⟩
  refine Sh.ref1_Text_calls _ ?_
  unfold Sh.ref1_Text
  refine ⟨fun h => ⟨_, rfl, by simp [bsz_mk], Fr.refl _ _⟩, fun h => ⟨fun h2 => ?_, fun h => by simp at h; omega⟩⟩
  simp at h
  rw [wrap_i64 (by omega) (by omega)]
  refine Calls.tell (text1_pos _ (by omega) (by omega) w) fun v w' ⟨u, h2, h3, h4⟩ => ?_
  subst h2
  exact ⟨u, rfl, by simp [bsz_mk]; omega, _, rfl, by rw [ByteArray.size_append]; simp [bsz_mk]; omega, h4⟩

theorem vtext_c (s : ByteArray) (w : World) : Calls Try.prog 28 #[.string s] w (Ret fun v w' => v = .agg #[.int .i64 3, .int .i64 0, .string s] ∧ Fr (fun _ => False) w w') := by
  refine Sh.ref11_Text_calls _ ?_
  unfold Sh.ref11_Text
  exact fun b hb w1 hf _ => ⟨rfl, frOne hb hf⟩

theorem vok_c (k n : Int) (s : ByteArray) (w : World) : Calls Try.prog 43 #[.agg #[.int .i64 k, .int .i64 n, .string s]] w (Ret fun v w' => ∃ r, v = .bool r ∧ Fr (fun _ => False) w w') := by
  refine Sh.ref11_Ok_calls _ _ _ ?_
  unfold Sh.ref11_Ok
  simp only [imp_self, true_and]
  intro b hb
  refine ⟨fun h1 h2 => by simp at h1 h2 ⊢; exact ⟨h1, h2⟩, fun h1 h2 => by simp at h1 h2 ⊢; omega, fun h1 h2 => by simp at h1 h2 ⊢; omega, fun h1 h2 => by simp at h1 h2 ⊢; simp [h1, h2], fun w1 hf _ => ⟨_, rfl, frOne hb hf⟩⟩

theorem vclean_c (k n : Int) (s : ByteArray) (w : World) : Calls Try.prog 34 #[.agg #[.int .i64 k, .int .i64 n, .string s]] w
    (Ret fun v w' => (v = .agg #[.int .i64 k, .int .i64 n, .string s] ∨ v = .agg #[.int .i64 0, .int .i64 0, .string ⟨#[]⟩]) ∧ Fr (fun _ => False) w w') := by
  refine Sh.ref11_Clean_calls _ _ _ ?_
  unfold Sh.ref11_Clean
  intro b hb b2 hb2 hne w1 hf1 hl1 hl2
  have hF : Fr (fun _ => False) w w1 := hf1.mono fun i hi h => by omega
  refine Calls.tell (vok_c _ _ _ _) fun v w2 ⟨r, hv, hf2⟩ => ?_
  subst hv
  have hF2 := hF.same hf2
  exact ⟨r, rfl, fun h => hf2.keep _ h fun h => h, fun h => hf2.keep _ h fun h => h, fun _ w3 hf3 _ _ => ⟨.inr rfl, hF2.late hf3 fun i hi h => by omega⟩, fun _ w3 hf3 _ _ => ⟨.inl rfl, hF2.late hf3 fun i hi h => by omega⟩⟩

theorem vprint_c (s : ByteArray) (hs : s.size ≤ 1000000000) (w : World) : Calls Try.prog 27 #[.agg #[.int .i64 3, .int .i64 0, .string s]] w (Ret fun v w' => ∃ u : ByteArray, v = .string u ∧ u.size ≤ 4 + 2 * s.size ∧ Fr (fun _ => False) w w') := by
  refine Sh.ref11_Print_calls _ _ _ ?_
  unfold Sh.ref11_Print
  intro b hb w1 hf1 hl1
  have hF1 := frOne hb hf1
  refine Calls.tell (vclean_c _ _ _ _) fun v w2 ⟨hv, hf2⟩ => ?_
  have hF2 := hF1.same hf2
  have hlate : ∀ w3, Fr (fun k => k = b) w2 w3 → Fr (fun _ => False) w w3 := fun w3 hf3 => hF2.late hf3 fun i hi h => by omega
  rcases hv with rfl | rfl
  · refine ⟨3, 0, s, rfl, fun h => hf2.keep _ h fun h => h, fun h => by simp at h, fun _ => ⟨fun h => by simp at h, fun _ => ⟨fun h => by simp at h, fun _ => ?_⟩⟩⟩
    refine ⟨fun u i w' => 0 ≤ i ∧ i ≤ (s.size : Int) ∧ (u.size : Int) ≤ 1 + 2 * i ∧ Fr (fun _ => False) w w', fun _ i _ => s.size - i.toNat, fun w3 hf3 _ => ⟨by omega, by omega, by simp [bsz_mk], hlate w3 hf3⟩, ?_⟩
    rintro u i w3 ⟨h0, h1, hu, hF3⟩
    refine ⟨fun hlt => ?_, fun hge => ?_⟩
    · simp only [decide_eq_true_eq] at hlt
      have hw : IntKind.i64.wrap (i + 1) = i + 1 := wrap_i64 (by omega) (by omega)
      rw [hw]
      have hsz : (s.extract i.toNat (i + 1).toNat).size = 1 := by rw [ByteArray.size_extract]; omega
      have hu39 : (u ++ (⟨#[39]⟩ : ByteArray)).size = u.size + 1 := by rw [ByteArray.size_append]; rfl
      refine ⟨s[i.toNat]'(by omega), ⟨h0, getElem?_pos s i.toNat (by omega)⟩, fun _ => ⟨by simp [bsz_mk]; omega, ⟨by omega, by omega, by omega⟩, by rw [hsz, hu39]; omega, ⟨by omega, by omega, by rw [ByteArray.size_append, hsz, hu39]; omega, hF3⟩, by dsimp only; omega⟩,
        fun _ => ⟨⟨by omega, by omega, by omega⟩, by rw [hsz]; omega, ⟨by omega, by omega, by rw [ByteArray.size_append, hsz]; omega, hF3⟩, by dsimp only; omega⟩⟩
    · simp only [decide_eq_false_iff_not] at hge
      have h39 : (⟨#[39]⟩ : ByteArray).size = 1 := rfl
      exact ⟨by rw [h39]; omega, _, rfl, by rw [ByteArray.size_append, h39]; omega, hF3⟩
  · exact ⟨0, 0, _, rfl, fun h => hf2.keep _ h fun h => h, fun _ w3 hf3 _ => ⟨_, rfl, by simp [bsz_mk], hlate w3 hf3⟩, fun h => by simp at h⟩
end Go.Proofs.Ytjlkgedcpmoehaa
