/-
  PlanParts holds for every input: the condition is parted and joined as the document says. No condition beyond the row's own.
-/
import Derived.Test.YtjlkgedcpmoehaaPi
import Derived.Test.YtjlkgedcpmoehaaRows
import Derived.ProofKit
import Derived.ChangeArms
import Derived.Deep.Slices
set_option linter.unusedVariables false
set_option linter.unusedSimpArgs false
set_option maxRecDepth 100000
namespace Go.Proofs.Ytjlkgedcpmoehaa
open Go Go.Vc Go.ChangeShapes Go.WideShapes Go.ChangeAt Go.RowKit Go.Deep

theorem expr_all : ∀ N, ExprC N
  | 0 => by
    intro K ν w I E D level hν hlt h hl0 hl1 hN
    have := h.i1
    omega
  | N + 1 => expr_of (expr_all N) (compare_of (expr_all N))

theorem ut2 : Try.prog.underlying 2 = some (.int .i64) := by kernel_rfl
theorem ut3 : Try.prog.underlying 3 = some (.int .i64) := by kernel_rfl
theorem ut4 : Try.prog.underlying 4 = some .bool := by kernel_rfl
theorem ut9 : Try.prog.underlying 9 = some .string := by kernel_rfl
theorem ut22 : Try.prog.underlying 22 = some (.slice 24) := by kernel_rfl
theorem cof2 : Try.prog.cellsOf 2 = 1 := by kernel_rfl
theorem cof3 : Try.prog.cellsOf 3 = 1 := by kernel_rfl
theorem cof9 : Try.prog.cellsOf 9 = 1 := by kernel_rfl
theorem cof22 : Try.prog.cellsOf 22 = 1 := by kernel_rfl
theorem cof24 : Try.prog.cellsOf 24 = 6 := by kernel_rfl

theorem ut24 : ∃ f0 f1 f2 f3 f4 f5 : Field, Try.prog.underlying 24 = some (.struct #[f0, f1, f2, f3, f4, f5]) ∧ (f0.type = 3 ∧ f0.offset = 0) ∧ (f1.type = 3 ∧ f1.offset = 1) ∧ (f2.type = 9 ∧ f2.offset = 2) ∧ (f3.type = 9 ∧ f3.offset = 3) ∧ (f4.type = 2 ∧ f4.offset = 4) ∧ (f5.type = 22 ∧ f5.offset = 5) :=
  ⟨_, _, _, _, _, _, Try.underlying24, ⟨rfl, rfl⟩, ⟨rfl, rfl⟩, ⟨rfl, rfl⟩, ⟨rfl, rfl⟩, ⟨rfl, rfl⟩, ⟨rfl, rfl⟩⟩

instance : Inhabited Nd := ⟨.mk 0 0 ⟨#[]⟩ ⟨#[]⟩ 0 []⟩

theorem rngL_of {l : List Nd} (h : ∀ x ∈ l, rng x) : rngL l := by
  induction l with
  | nil => trivial
  | cons y l ih => exact ⟨h y (List.mem_cons_self ..), ih fun x hx => h x (List.mem_cons_of_mem _ hx)⟩

/-- Cells that are read as a node's are a node's. -/
theorem open_nd {H : Type} {enc : TypeId × Value → H} {w : World} {sp : Nat → Bool} : ∀ (fuel : Nat) (cs : List Value) (x : DataW H × List MemPlace), DataW.trod enc Try.prog w 0 sp true fuel 24 cs = some x →
    ∃ (y : Nd) (k o : Int) (s t : ByteArray) (n : Int) (p : Option Addr) (len cap : Nat), cs = [.int .i64 k, .int .i64 o, .string s, .string t, .int .i64 n, .slice p len cap] ∧ NdV (fun _ => False) w y k o s t n p len cap ∧ rng y := by
  intro fuel
  induction fuel with
  | zero => intro cs x h; simp [DataW.trod] at h
  | succ m ih =>
    intro cs x h
    obtain ⟨f0, f1, f2, f3, f4, f5, hu, ⟨t0, o0⟩, ⟨t1, o1⟩, ⟨t2, o2⟩, ⟨t3, o3⟩, ⟨t4, o4⟩, ⟨t5, o5⟩⟩ := ut24
    obtain ⟨xs, m', hm, hx, hl, hlen, hf⟩ := DataW.trod_struct hu h
    obtain rfl : m' = m := by omega
    rw [cof24] at hl
    match cs, hl with
    | [c0, c1, c2, c3, c4, c5], _ =>
      match xs, hlen with
      | [x0, x1, x2, x3, x4, x5], _ =>
        have h0 := hf 0 f0 rfl
        have h1 := hf 1 f1 rfl
        have h2 := hf 2 f2 rfl
        have h3 := hf 3 f3 rfl
        have h4 := hf 4 f4 rfl
        have h5 := hf 5 f5 rfl
        rw [t0, o0, cof3] at h0
        rw [t1, o1, cof3] at h1
        rw [t2, o2, cof9] at h2
        rw [t3, o3, cof9] at h3
        rw [t4, o4, cof2] at h4
        rw [t5, o5, cof22] at h5
        obtain ⟨k, hk, _, _⟩ := DataW.trod_int ut3 h0
        obtain ⟨o, ho, _, _⟩ := DataW.trod_int ut3 h1
        obtain ⟨s, hs, _, _⟩ := DataW.trod_string ut9 h2
        obtain ⟨t, ht, _, _⟩ := DataW.trod_string ut9 h3
        obtain ⟨n, hn, _, hw⟩ := DataW.trod_int ut2 h4
        simp only [List.drop_succ_cons, List.drop_zero, List.take_succ_cons, List.take_zero, List.cons.injEq, and_true] at hk ho hs ht hn h5
        subst hk ho hs ht hn
        have hr : -9223372036854775808 ≤ n ∧ n ≤ 9223372036854775807 := by simpa [Lit.wf, IntKind.min, IntKind.max, IntKind.signed, IntKind.bits] using hw
        rcases DataW.trod_slice ut22 h5 with ⟨hc, _⟩ | ⟨a, len, cap, elems, rest, m2, hm2, hc, _, hb, hle, hcm, hel, hall, _, _⟩
        · simp only [List.cons.injEq, and_true] at hc
          subst hc
          exact ⟨.mk k o s t n [], k, o, s, t, n, none, 0, 0, rfl, ⟨Nat.le_refl _, [], rfl, NdS.nil _ _ _⟩, hr, trivial⟩
        · simp only [List.cons.injEq, and_true] at hc
          subst hc
          rw [cof24] at hall
          obtain ⟨f, hf⟩ := choose_lt (α := Nd) (n := len) (p := fun i y => NdR (fun _ => False) w y (a.add (i * 6)) ∧ rng y) fun i hi => by
            have h6 := hall i hi
            rw [List.getElem?_eq_getElem (by omega)] at h6
            obtain ⟨cs', h7, h8⟩ := Option.bind_eq_some_iff.1 h6
            have h9 : DataW.trod enc Try.prog w 0 sp true m' 24 cs' = some elems[i] := by rw [hm2]; exact DataW.trod_succ _ _ _ _ h8
            obtain ⟨y, k', o', s', t', n', p', len', cap', rfl, hv, hry⟩ := ih _ _ h9
            obtain ⟨_, _, hc⟩ := World.cells?_some h7
            exact ⟨y, NdR.mk' hv (fun h => h) (hc 0 (by omega)) (hc 1 (by omega)) (hc 2 (by omega)) (hc 3 (by omega)) (hc 4 (by omega)) (hc 5 (by omega)), hry⟩
          refine ⟨.mk k o s t n ((List.range len).map f), k, o, s, t, n, some a, len, cap, rfl, ⟨hle, _, rfl, NdS.mk' (by simp) fun j y hj => ?_⟩, hr, rngL_of fun y hy => ?_⟩
          · obtain ⟨hj1, hj2⟩ := List.getElem?_eq_some_iff.1 hj
            simp at hj1 hj2
            rw [← hj2]
            exact (hf j hj1).1
          · obtain ⟨j, hj, rfl⟩ := List.mem_map.1 hy
            exact (hf j (by simpa using hj)).2

theorem own : ownKnob Try.prog.godebug = none := by kernel_rfl
theorem laidOut : laidOutB Try.prog = true := by kernel_rfl

theorem below_of {w w' : World} (h : Fr (fun _ => False) w w') : Below w.heap.size w w' := ⟨h.os, h.tape, h.output, h.size, fun k hk => h.keep k hk fun h => h⟩

set_option maxRecDepth 100000 in
theorem lifted (os : Os) (started : os.Started) (H : Type) (enc : TypeId × Value → H) :
    ReturnsInHanded {} Try.checked os 3 .any (Rows.planPartsSpec.pre6 enc Try.prog Try.f3 Rows.planPartsRow.domain false) (Rows.planPartsSpec.post enc Try.prog Try.f3 false true false false) := by
  refine returnsInHanded_of_change (C := Try.checked) own started (by kernel_rfl) Try.func3
    (ChangeSpec.witness6 (enc := enc) (C := Try.checked) false ⟨#[], #[.agg #[.int .i64 0, .int .i64 0, .string ⟨#[]⟩, .string ⟨#[]⟩, .int .i64 0, .slice none 0 0]], []⟩ 8 (by kernel_rfl) (by kernel_rfl) (by kernel_rfl) (by kernel_rfl)) ?_
  intro W base args ds gs before hval0 hW hcnd _
  have hval : ∀ (j : Nat) t v, Try.f3.params[j]? = some t → args[j]? = some v → Value.okWide Try.prog W .any base t v := hval0
  have hW' := hW
  obtain ⟨p, q, hA0, hV, rfl, hfz, hnd⟩ := hW
  have hA : DataW.TrodAll enc Try.prog W 0 (fun _ => true) true Try.f3.params.toList args.toList ds p := hA0
  rw [Try.params3] at hA hval
  obtain ⟨v0, d0, hargs, rfl, h0⟩ := trodAll_one hA
  subst hargs
  obtain ⟨rfl, rfl⟩ := trodVars_none hV
  obtain ⟨cs, rfl, _⟩ := okWide_struct Try.underlying24 (hval 0 24 v0 rfl rfl)
  have h0k := h0
  obtain ⟨fuel, hf⟩ := h0
  obtain ⟨y, k, o, s, t, n, p0, len, cap, hcs, hv, hr⟩ := open_nd fuel _ _ hf
  simp only [Value.cells] at hcs
  obtain rfl : cs = #[.int .i64 k, .int .i64 o, .string s, .string t, .int .i64 n, .slice p0 len cap] := by
    cases cs
    simpa using hcs
  clear hA0 hval0
  simp only [List.append_nil] at hW'
  refine (planParts_c (show_of expr_all) cap hv hr).mono fun e W' ⟨v, he, hv, hF⟩ => ?_
  subst he hv
  have hb := below_of hF
  have hlt : ∀ x ∈ p, x.block < W.heap.size := fun x hx => hW'.lt x hx
  exact ⟨_, rfl, _, _, p, [], p, [], hW', trodAll_mk1 (shut_bool ut4 _), trodAll_mk1 (Below.trod laidOut (by kernel_rfl) (of_decide_eq_true (by kernel_rfl)) h0k hb hlt), rfl, hb.frame _, fun h => by cases h⟩

theorem planParts_holds : Rows.PlanPartsSaid :=
  OpenClaim.holds_of_wide 3 Try.f3 rfl rfl rfl rfl rfl rfl rfl ⟨rfl, rfl, rfl, rfl, rfl⟩ rfl rfl rfl rfl rfl (by kernel_rfl) Try.func3 (by kernel_rfl)
    (of_decide_eq_true (by kernel_rfl)) (by unfold Func.isWrapper; first | (rw [if_pos (by decide +kernel)]; kernel_rfl) | (rw [if_neg (by decide +kernel)]; exact ⟨rfl, rfl⟩))
    (fun os started H enc _ => lifted os started H enc)
#print axioms planParts_holds
end Go.Proofs.Ytjlkgedcpmoehaa
