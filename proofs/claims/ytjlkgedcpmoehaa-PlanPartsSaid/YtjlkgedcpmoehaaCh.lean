/-
  The law's own function, given what Show is worth.
-/
import Derived.Test.YtjlkgedcpmoehaaCg
set_option linter.unusedVariables false
set_option linter.unusedSimpArgs false
set_option maxRecDepth 100000
namespace Go.Proofs.Ytjlkgedcpmoehaa
open Go Go.Vc

def ShowC : Prop := ∀ (w : World) (x : Nd) (k o : Int) (s t : ByteArray) (n : Int) (p : Option Addr) (len cap : Nat), NdV (fun _ => False) w x k o s t n p len cap → sz x ≤ 300 → good x → rng x →
  Calls Try.prog 6 #[nv k o s t n p len cap] w (Ret fun v w' => ∃ u r, v = .tuple #[.string u, .bool r] ∧ Fr (fun _ => False) w w')

theorem planParts_c (hShow : ShowC) {w : World} {x : Nd} {k o : Int} {s t : ByteArray} {n : Int} {p : Option Addr} {len : Nat} (cap : Nat) (hv : NdV (fun _ => False) w x k o s t n p len cap) (hrng : rng x) :
    Calls Try.prog 3 #[nv k o s t n p len cap] w (Ret fun v w' => v = .bool true ∧ Fr (fun _ => False) w w') := by
  refine Sh.law22_PlanParts_calls _ _ _ _ _ _ _ _ ?_
  unfold Sh.law22_PlanParts
  simp only [imp_self, true_and]
  rintro w1 rfl
  have hF1 := Fr.newBlock (fun _ => False) w (.cells #[.int .i64 k, .int .i64 o, .string s, .string t, .int .i64 n, .slice p len cap] 24)
  have hR1 : NdR (fun _ => False) (w.alloc (.cells #[.int .i64 k, .int .i64 o, .string s, .string t, .int .i64 n, .slice p len cap] 24)) x ⟨w.heap.size, 0, none⟩ := by
    have hb := Blk.new w [.int .i64 k, .int .i64 o, .string s, .string t, .int .i64 n, .slice p len cap] 24
    exact NdR.mk' (cap := cap) (hv.frame hF1 fun _ _ h => h) (fun h => h) hb.cell0 (hb.cell (i := 1) rfl) (hb.cell (i := 2) rfl) (hb.cell (i := 3) rfl) (hb.cell (i := 4) rfl) (hb.cell (i := 5) rfl)
  generalize w.alloc (.cells #[.int .i64 k, .int .i64 o, .string s, .string t, .int .i64 n, .slice p len cap] 24) = w1 at *
  refine hR1.load fun k1 o1 s1 t1 n1 p1 len1 cap1 hv1 => ?_
  refine Calls.tell (Small_c cap1 0 hv1) fun v w2 ⟨r, hr, hf2, h2⟩ => ?_
  subst hr
  have hF2 := hF1.same hf2
  refine ⟨r, rfl, fun _ => ?_, fun hr => ?_⟩
  · refine Calls.tell (awake_c w2) fun v w3 ⟨hv, hf⟩ => ?_
    subst hv
    exact ⟨true, rfl, rfl, hF2.same hf⟩
  obtain ⟨hsz, hgood⟩ := h2 (by simpa using hr)
  have hR2 := hR1.frame hf2 fun _ _ h => h
  refine hR2.load fun k2 o2 s2 t2 n2 p2 len2 cap2 hv2 => ?_
  refine Calls.tell (hShow w2 x _ _ _ _ _ _ _ _ hv2 hsz hgood hrng) fun v w3 ⟨u, r, hv, hf3⟩ => ?_
  subst hv
  have hF3 := hF2.same hf3
  refine ⟨u, r, rfl, fun _ => ?_, fun hr => ?_⟩
  · refine Calls.tell (awake_c w3) fun v w4 ⟨hv, hf⟩ => ?_
    subst hv
    exact ⟨true, rfl, rfl, hF3.same hf⟩
  have hR3 := hR2.frame hf3 fun _ _ h => h
  have hcs := conjF_sz _ x (Nat.le_refl _)
  refine Calls.tell (conjs_c _ x (Nat.le_refl _) (fun _ => False) w3 _ (fun _ h => h.elim) hR3 (by omega)) fun v w4 ⟨q, ql, qc, hv, hL4, hqn, hqc, hf4⟩ => ?_
  subst hv
  have hF4 := hF3.same hf4
  have hR4 := hR3.frame hf4 fun _ _ h => h
  refine ⟨q, ql, qc, rfl, hR4.load fun k4 o4 s4 t4 n4 p4 len4 cap4 hv4 => ?_⟩
  refine Calls.tell (conj_c _ x (Nat.le_refl _) (fun _ => False) w4 _ _ _ _ _ _ _ _ (fun _ h => h.elim) hv4 (by omega)) fun v w5 ⟨ho5, hf5⟩ => ?_
  obtain ⟨q5, c5, rfl⟩ := ho5.shape
  have hF5 := hF4.same hf5
  refine ⟨q5, _, c5, rfl, ?_⟩
  have hL5 := hL4.frame hf5 fun _ _ h => h
  refine Calls.tell (sameNodes (conjF x) (fun _ => False) w5 (conjF x) _ _ _ _ _ _ hL5 (ho5.nds fun _ h => h.elim) (.inl (by omega))) fun v w6 ⟨r, hv, hrt, hf6⟩ => ?_
  subst hv
  have hF6 := hF5.same hf6
  have hr1 : r = true := hrt.2 rfl
  subst hr1
  refine ⟨true, rfl, fun h => (by cases h), fun _ => ?_⟩
  have hL6 := hL5.frame hf6 fun _ _ h => h
  -- the parts
  obtain ⟨x0, r, hxr⟩ : ∃ x0 r, conjF x = x0 :: r := by
    cases h : conjF x with
    | nil => exact absurd h (conjF_ne _ x (Nat.le_refl _))
    | cons a b => exact ⟨a, b, rfl⟩
  have hparts := conjF_parts _ x (Nat.le_refl _)
  rw [hxr] at hL6 hparts hcs
  have hlen : ql = r.length + 1 := hL6.1
  have hsr := szL_len (x0 :: r)
  simp only [List.length_cons] at hsr
  refine Calls.tell (join_c (fun _ h => h.elim) hL6 hqc (by omega)) fun v w7 ⟨A, hv, hJ7, hf7⟩ => ?_
  subst hv
  have hF7 := hF6.same hf7
  have hL7 := hL6.frame hf7 fun _ _ h => h
  have hjsz := joinF_sz r x0
  simp only [szL] at hcs hsr
  have hx0 := sz_pos x0
  refine ⟨some A, rfl, fun h => (by cases h), fun _ => ⟨rfl, ?_⟩⟩
  refine Calls.tell (conjs_c _ _ (Nat.le_refl _) (fun _ => False) w7 _ (fun _ h => h.elim) hJ7 (by omega)) fun v w8 ⟨q8, ql8, qc8, hv, hL8, _, _, hf8⟩ => ?_
  subst hv
  have hF8 := hF7.same hf8
  refine ⟨q8, ql8, qc8, rfl, ?_⟩
  have hcj : conjF (joinF x0 r) = x0 :: r := by
    rw [conjF_joinF r x0 fun y hy => hparts y (List.mem_cons_of_mem _ hy), hparts x0 (List.mem_cons_self ..)]
    rfl
  rw [hcj] at hL8
  refine Calls.tell (sameNodes (x0 :: r) (fun _ => False) w8 (x0 :: r) _ _ _ _ _ _ hL8 (hL7.frame hf8 fun _ _ h => h) (.inl (by simp only [szL]; omega))) fun v w9 ⟨rb, hv, hrt, hf9⟩ => ?_
  subst hv
  have hF9 := hF8.same hf9
  have hr1 : rb = true := hrt.2 rfl
  subst hr1
  refine ⟨true, rfl, fun h => (by cases h), fun _ => ?_⟩
  have hL9 := (hL7.frame hf8 fun _ _ h => h).frame hf9 fun _ _ h => h
  have hJ9 := (hJ7.frame hf8 fun _ _ h => h).frame hf9 fun _ _ h => h
  -- how many are safe
  refine ⟨fun i w' => i = (leadF (x0 :: r) : Nat) ∧ Fr (fun _ => False) w9 w', ?_, ?_⟩
  · refine ⟨fun i w' => 0 ≤ i ∧ i ≤ (ql : Int) ∧ Fr (fun _ => False) w9 w' ∧ safeL ((x0 :: r).take i.toNat) = true, fun i w' => ql - i.toNat, ⟨by omega, by omega, Fr.refl _ _, by simp [safeL]⟩, fun i w10 ⟨h0, h1, hf, ht⟩ => ?_⟩
    by_cases hlt : i < (ql : Int)
    · have hs1 := hL9.frame hf fun _ _ h => h.elim
      obtain ⟨a, y, rfl, hx, hR⟩ := hs1.at h0 hlt
      refine ⟨a, fun _ => ⟨rfl, h0, hlt⟩, fun _ => ⟨by simpa using hlt, hR.load fun k' o' s' t' n' p' len' cap' hv => ?_⟩, fun hc => by simp at hc; omega⟩
      have hym := szL_mem (List.mem_of_getElem? hx)
      simp only [szL] at hym
      refine Calls.tell (safe_c y _ w10 _ _ _ _ _ _ _ _ hv (by omega)) fun v w11 ⟨hv3, hf3⟩ => ?_
      refine ⟨_, by rw [hv3], fun hr => ?_, fun hr => ⟨?_, hf.same hf3⟩⟩
      · rw [i64_succ h0 hlt (by omega)]
        refine ⟨⟨by omega, by omega, hf.same hf3, ?_⟩, ?_⟩
        · rw [show (i + 1).toNat = i.toNat + 1 from by omega, safeL_take hx, ht, hr]; rfl
        · dsimp only; omega
      · rw [leadF_stop ht hx hr]
        omega
    · refine ⟨⟨0, 0, none⟩, fun hc => by simp at hc; omega, fun hc => by simp at hc; omega, fun hc => ⟨?_, hf⟩⟩
      rw [List.take_of_length_le (by rw [← hL9.1]; omega)] at ht
      rw [leadF_all ht]
      simp only [List.length_cons]
      omega
  rintro i w10 ⟨rfl, hf10⟩
  have hF10 := hF9.same hf10
  have hL10 := hL9.frame hf10 fun _ _ h => h
  have hJ10 := hJ9.frame hf10 fun _ _ h => h
  obtain ⟨a, hqa, hR0⟩ := hL10.get (j := 0) (x := x0) rfl
  subst hqa
  refine ⟨a, rfl, ⟨by omega, by omega⟩, hR0.load fun k10 o10 s10 t10 n10 p10 len10 cap10 hv10 => ?_⟩
  intro b hb
  have anti : ∀ i, i < w10.heap.size → i = b → False := fun i hi h => by omega
  have hv10' := hv10.anti anti
  have hLb := hL10.anti anti
  have hJb := hJ10.anti anti
  refine ⟨fun i k o s t n p len cap w' => Fr (fun i => i = b) w10 w' ∧ b < w'.heap.size ∧ 1 ≤ i ∧ i ≤ (ql : Int) ∧ NdV (fun i => i = b) w' (joinF x0 (r.take (i.toNat - 1))) k o s t n p len cap, fun i _ _ _ _ _ _ _ _ _ => ql - i.toNat,
    fun w11 hf11 hlt11 => ⟨hf11, hlt11, by omega, by omega, by simpa [joinF] using hv10'.frame hf11 fun _ _ h => h⟩, ?_⟩
  rintro i k o s t n p len cap w11 ⟨hf11, hlt11, hi0, hi1, hv11⟩
  refine ⟨fun hlt => ?_, fun hge => ?_⟩
  · simp only [decide_eq_true_eq] at hlt
    intro w12 hf12 hlt12
    have hL12 := (hLb.frame hf11 fun _ _ h => h).frame hf12 fun _ _ h => h
    have hy : (x0 :: r)[i.toNat]? = some (r[i.toNat - 1]'(by omega)) := by
      have h2 : (x0 :: r)[(i.toNat - 1) + 1]? = some (r[i.toNat - 1]'(by omega)) := by simp
      rwa [show (i.toNat - 1) + 1 = i.toNat from by omega] at h2
    obtain ⟨a', ha', hRy⟩ := hL12.get hy
    cases ha'
    refine ⟨a, rfl, ⟨by omega, hlt⟩, hRy.load fun k' o' s' t' n' p' len' cap' hv' => ?_⟩
    obtain ⟨_, _, _, _, _, _, _, _, hnb, _⟩ := hRy.cells
    refine ⟨hnb, ?_⟩
    rintro w13 rfl
    have hf13 := Fr.newBlock (fun i => i = b) w12 (.cells #[.int .i64 k, .int .i64 o, .string s, .string t, .int .i64 n, .slice p len cap, .int .i64 k', .int .i64 o', .string s', .string t', .int .i64 n', .slice p' len' cap'] 24)
    refine ⟨hf13, fun w14 hf14 hlt14 => ?_⟩
    rw [wrap_i64 (by omega) (by omega)]
    refine ⟨⟨((hf11.same hf12).same hf13).same hf14, hlt14, by omega, by omega, ?_⟩, by dsimp only; omega⟩
    have hj : joinF x0 (r.take ((i + 1).toNat - 1)) = .mk 6 18 ⟨#[]⟩ ⟨#[]⟩ 0 [joinF x0 (r.take (i.toNat - 1)), r[i.toNat - 1]'(by omega)] := by
      rw [show (i + 1).toNat - 1 = (i.toNat - 1) + 1 from by omega, List.take_add_one, List.getElem?_eq_getElem (by omega)]
      exact joinF_snoc _ _ _
    rw [hj]
    have hnew : Blk w14 w12.heap.size [.int .i64 k, .int .i64 o, .string s, .string t, .int .i64 n, .slice p len cap, .int .i64 k', .int .i64 o', .string s', .string t', .int .i64 n', .slice p' len' cap'] 24 :=
      (Blk.new w12 [.int .i64 k, .int .i64 o, .string s, .string t, .int .i64 n, .slice p len cap, .int .i64 k', .int .i64 o', .string s', .string t', .int .i64 n', .slice p' len' cap'] 24).frame hf14 fun h => by omega
    refine NdV.of_row (l := [joinF x0 (r.take (i.toNat - 1)), r[i.toNat - 1]'(by omega)]) (a := ⟨w12.heap.size, 0, none⟩) (fun h => by simp at h; omega) ?_ fun j u hu => hnew.cell hu
    exact ⟨_, _, _, _, _, _, _, _, [.int .i64 k', .int .i64 o', .string s', .string t', .int .i64 n', .slice p' len' cap'], rfl, ((hv11.frame hf12 fun _ _ h => h).frame hf13 fun _ _ h => h).frame hf14 fun _ _ h => h, _, _, _, _, _, _, _, _, [], rfl,
      (hv'.frame hf13 fun _ _ h => h).frame hf14 fun _ _ h => h, rfl⟩
  · simp only [decide_eq_false_iff_not] at hge
    intro w12 hf12 hlt12
    have hf0_12 := hf11.same hf12
    have hL12 := hLb.frame hf0_12 fun _ _ h => h
    have hJ12 := hJb.frame hf0_12 fun _ _ h => h
    have hv12 := hv11.frame hf12 fun _ _ h => h
    have hti : r.take (i.toNat - 1) = r := List.take_of_length_le (by omega)
    rw [hti] at hv12
    have hF12 : Fr (fun _ => False) w w12 := hF10.trans hf0_12 (fun _ _ h => h) fun i hi h => by have := hF10.size; omega
    refine Calls.tell (lead_c qc hL12 (by simp only [szL]; omega)) fun v w13 ⟨hv, hf13⟩ => ?_
    subst hv
    refine ⟨_, rfl, fun h => hf13.keep _ h fun h => h, hf13, A, fun _ => rfl, fun _ => ⟨by simp, ?_⟩, fun h => by simp at h⟩
    refine (hJ12.frame hf13 fun _ _ h => h.elim).load fun k' o' s' t' n' p' len' cap' hv' => ⟨by simp, ?_⟩
    refine Calls.tell (sameNode (joinF x0 r) _ w13 (joinF x0 r) _ _ _ _ _ _ _ _ _ _ _ _ _ _ _ _ hv' (hv12.frame hf13 fun _ _ h => h.elim) (.inl (by omega))) fun v w14 ⟨rb, hv, hrt, hf14⟩ => ?_
    subst hv
    refine ⟨rb, rfl, fun h => hf14.keep _ h fun h => h, hf13.same hf14, fun _ => ?_, fun h => by rw [hrt.2 rfl] at h; cases h⟩
    refine Calls.tell (awake_c w14) fun v w15 ⟨hv, hf15⟩ => ?_
    subst hv
    exact ⟨true, rfl, fun h => hf15.keep _ h fun h => h, (hf13.same hf14).same hf15, rfl, ((hF12.same hf13).same hf14).same hf15⟩
end Go.Proofs.Ytjlkgedcpmoehaa
