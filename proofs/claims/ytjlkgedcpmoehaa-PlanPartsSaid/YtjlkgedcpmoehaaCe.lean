/-
  Contracts: conjuncts, Join, Empty, Small.
-/
import Derived.Test.YtjlkgedcpmoehaaCd
set_option linter.unusedVariables false
set_option linter.unusedSimpArgs false
set_option maxRecDepth 100000
namespace Go.Proofs.Ytjlkgedcpmoehaa
open Go Go.Vc

def ConjC (x : Nd) : Prop := ∀ (μ : Nat → Prop) (w : World) (k o : Int) (s t : ByteArray) (n : Int) (p : Option Addr) (len cap : Nat), (∀ i, μ i → i < w.heap.size) → NdV μ w x k o s t n p len cap → sz x ≤ 1000000000 →
  Calls Try.prog 9 #[nv k o s t n p len cap] w (Ret fun v w' => OwnS μ w' w.heap.size 24 (conjF x) v ∧ Fr (fun _ => False) w w')

theorem conj_c : ∀ (c : Nat) (x : Nd), sz x ≤ c → ConjC x
  | 0, x, h => by have := sz_pos x; omega
  | c + 1, .mk k o s t n l, hc => by
    intro μ w k o s t n p len cap hμ hv hb
    obtain ⟨rfl, rfl, rfl, rfl, rfl, hs⟩ := hv.inj rfl
    refine Sh.law22_conjuncts_calls _ _ _ _ _ _ _ _ ?_
    unfold Sh.law22_conjuncts
    simp only [imp_self, true_and]
    intro b hbb
    refine ⟨fun h => by simpa using h, fun h => by simpa using h, fun hn w1 hf1 hb1 => ?_, fun hn w1 hf1 hb1 => ?_⟩
    · rintro w2 rfl
      have hn' : ¬ (k = 6 ∧ o = 18 ∧ l.length = 2) := by
        rintro ⟨rfl, rfl, h2⟩
        have := hs.1
        simp at hn
        omega
      rw [conjF_other hn']
      have hf := frOne hbb hf1
      exact ⟨own_one hf.size (hv.frame hf fun _ _ h => h.elim), hf.same (Fr.newBlock _ _ _)⟩
    · simp at hn
      obtain ⟨⟨rfl, rfl⟩, hl2⟩ := hn
      have hl2 : l.length = 2 := by have := hs.1; omega
      match l, hl2 with
      | [x, y], _ =>
        have hlen2 : len = 2 := hs.1
        subst hlen2
        have hf := frOne hbb hf1
        have hs1 := (hs.anti (ν := fun i => μ i ∨ w.heap.size ≤ i) fun i hi h => h.elim id fun h => by omega).frame hf fun _ _ h => h.elim
        obtain ⟨a, hpa, hRx⟩ := hs1.get (j := 0) (x := x) rfl
        obtain ⟨a', hpa', hRy⟩ := hs1.get (j := 1) (x := y) rfl
        subst hpa
        cases hpa'
        simp only [sz, szL] at hc hb
        refine ⟨a, rfl, ⟨by omega, by omega⟩, hRx.load fun k1 o1 s1 t1 n1 p1 len1 cap1 hv1 => ⟨a, rfl, ⟨by omega, by omega⟩, hRy.load fun k2 o2 s2 t2 n2 p2 len2 cap2 hv2 => ?_⟩⟩
        have hμ1 : ∀ i, μ i → i < w1.heap.size := fun i hi => Nat.lt_of_lt_of_le (hμ i hi) hf.size
        refine Calls.tell (conj_c c x (by omega) μ w1 _ _ _ _ _ _ _ _ hμ1 (hv1.anti fun _ _ h => .inl h) (by omega)) fun v w2 ⟨ho2, hf2⟩ => ?_
        obtain ⟨q1, c1, hq1⟩ := ho2.shape
        subst hq1
        refine ⟨q1, _, c1, rfl, fun h => hf2.keep _ h fun h => h, hf2, ?_⟩
        have hown1 : ∀ i, (Value.slice q1 (conjF x).length c1).ownBlock = some i → w1.heap.size ≤ i ∧ i < w2.heap.size := fun i hi => ho2.block hi
        have hfs := hf.size
        have hf2s := hf2.size
        refine Calls.tell (conj_c c y (by omega) (fun i => μ i ∨ (Value.slice q1 (conjF x).length c1).ownBlock = some i) w2 _ _ _ _ _ _ _ _ (fun i hi => hi.elim (fun h => Nat.lt_of_lt_of_le (hμ1 i h) hf2.size) fun h => (hown1 i h).2)
          ((hv2.frame hf2 fun _ _ h => h.elim).anti fun i _ h => h.elim .inl fun h => .inr (by have := (hown1 i h).1; omega)) (by omega)) fun v w3 ⟨ho3, hf3⟩ => ?_
        obtain ⟨q2, c2, hq2⟩ := ho3.shape
        subst hq2
        refine ⟨q2, _, c2, rfl, fun h => hf3.keep _ h fun h => h, hf2.same hf3, ?_⟩
        have hnd := ho3.nds fun i hi => hi.elim (fun h => Nat.lt_of_lt_of_le (hμ1 i h) hf2.size) fun h => (hown1 i h).2
        have hsx := conjF_sz _ x (Nat.le_refl _)
        have hsy := conjF_sz _ y (Nat.le_refl _)
        have hlx := szL_len (conjF x)
        have hly := szL_len (conjF y)
        have hcap : q2 = none → c2 = 0 := by
          rintro rfl
          obtain ⟨xs, ho, _⟩ := ho3
          rcases ho.2 with ⟨h, h'⟩ | ⟨g, cap, cur, h, _⟩
          · simp at h; exact h.2
          · cases h
        obtain ⟨v', w4, hr, ho4, hf4⟩ := OwnS.append T24 22 (ho2.frame hf3 fun _ _ h => h.elim) hnd hcap (by have := hf3.size; omega) (by omega)
        obtain ⟨q3, c3, hq3⟩ := ho4.shape
        subst hq3
        have hall : Fr (fun _ => False) w1 w4 := (hf2.same hf3).trans hf4 (fun _ _ h => h) fun i hi h => by have := (hown1 i h).1; omega
        refine ⟨q3, _, c3, w4, hr, fun hlt => ?_, hall, ?_, hf.same hall⟩
        · refine hf4.keep _ hlt fun h => ?_
          have := (hown1 b h).1
          omega
        · rw [conjF_and]
          exact ho4.mono hfs

theorem add_mul6 (a : Addr) (t : Nat) : (a.add ((1 : Int).toNat * 6)).add (t * 6) = a.add ((t + 1) * 6) := by rw [add_add]; congr 1; simp; omega

theorem NdV.of_row {μ : Nat → Prop} {w : World} {a : Addr} {l : List Nd} {xs : List Value} {k o : Int} {s t : ByteArray} {n : Int} (ha : ¬ μ a.block) (h : RowOf μ w l xs) (hc : ∀ j u, xs[j]? = some u → w.cell? (a.add j) = some u) :
    NdV μ w (.mk k o s t n l) k o s t n (some a) l.length l.length :=
  ⟨Nat.le_refl _, l, rfl, rfl, RowOf.row ha h fun j u hu => by simpa using hc j u hu⟩

theorem joinNil_c (w : World) : Calls Try.prog 10 #[.slice none 0 0] w (Ret fun v w' => v = .pointer none ∧ w' = w) := by
  refine Sh.plan_Join_calls _ _ _ ?_
  unfold Sh.plan_Join
  exact ⟨fun _ => ⟨rfl, rfl⟩, fun h => by simp at h⟩

theorem join_c {μ : Nat → Prop} {w : World} {x : Nd} {r : List Nd} {p : Option Addr} {len cap : Nat} (hμ : ∀ i, μ i → i < w.heap.size) (h : NdS μ w (x :: r) p len) (hcap : len ≤ cap) (hb : szL (x :: r) ≤ 1000000000) :
    Calls Try.prog 10 #[.slice p len cap] w (Ret fun v w' => ∃ A, v = .pointer (some A) ∧ NdR μ w' (joinF x r) A ∧ Fr (fun _ => False) w w') := by
  have hlen : len = r.length + 1 := h.1
  have hbl : len ≤ 1000000000 := by have h1 := szL_len (x :: r); have h3 := h.1; omega
  refine Sh.plan_Join_calls _ _ _ ?_
  unfold Sh.plan_Join
  refine ⟨fun h0 => by simp at h0; omega, fun _ => ?_⟩
  obtain ⟨a, hpa, hR⟩ := h.get (j := 0) (x := x) rfl
  subst hpa
  refine ⟨a, rfl, ⟨by omega, by omega⟩, hR.load fun k o s t n p1 len1 cap1 hv => ?_⟩
  rintro w1 rfl
  have hbk := Blk.new w [.int .i64 (0 : Int), .int .i64 (0 : Int), .string (⟨#[]⟩ : ByteArray), .string (⟨#[]⟩ : ByteArray), .int .i64 (0 : Int), .slice none 0 0] 24
  refine store6 hbk rfl (v5 := .slice p1 len1 cap1) fun w2 hw2 hbk2 hf2 => ?_
  rw [← hw2]
  have hf2' : Fr (fun _ => False) w w2 := (Fr.newBlock (fun _ => False) w _).trans hf2 (fun _ _ h => h) fun i hi h => by omega
  refine ⟨⟨by omega, by omega⟩, ?_⟩
  refine ⟨fun i w' => 0 ≤ i ∧ i ≤ (r.length : Int) ∧ Fr (fun _ => False) w w' ∧ ∃ k o s t n q ql qc, Blk w' w.heap.size [.int .i64 k, .int .i64 o, .string s, .string t, .int .i64 n, .slice q ql qc] 24 ∧
      NdV (fun i => μ i ∨ i = w.heap.size) w' (joinF x (r.take i.toNat)) k o s t n q ql qc, fun i _ => r.length - i.toNat, ⟨by omega, by omega, hf2', k, o, s, t, n, p1, len1, cap1, hbk2, ?_⟩, ?_⟩
  · refine (hv.anti (ν := fun i => μ i ∨ i = w.heap.size) fun i hi h => h.elim id fun h => by omega).frame hf2' fun _ _ h => h.elim
  rintro i w3 ⟨h0, h1, hf3, k3, o3, s3, t3, n3, q3, ql3, qc3, hbk3, hv3⟩
  refine ⟨fun hlt => ?_, fun hge => ?_⟩
  · simp only [decide_eq_true_eq] at hlt
    have hlt' : i < (r.length : Int) := by simp at hlt; omega
    have hs3 := (h.anti (ν := fun i => μ i ∨ w.heap.size ≤ i) fun i hi h => h.elim id fun h => by omega).frame hf3 fun _ _ h => h.elim
    have hy : (x :: r)[i.toNat + 1]? = some (r[i.toNat]'(by omega)) := by simp
    obtain ⟨a', ha', hRy⟩ := hs3.get hy
    cases ha'
    have hc1 : ¬ (cap = (1 : Int).toNat) := by simp; omega
    rw [if_neg hc1]
    refine ⟨_, rfl, ⟨h0, hlt⟩, ?_⟩
    rw [add_mul6]
    refine hRy.load fun k4 o4 s4 t4 n4 p4 len4 cap4 hv4 => ?_
    intro b hbb w4 hf4 hb4
    have hf4' := frOne hbb hf4
    have hbk4 := hbk3.frame hf4' fun h => h
    refine ⟨k3, hbk4.cell0, o3, hbk4.cell (i := 1) rfl, s3, hbk4.cell (i := 2) rfl, t3, hbk4.cell (i := 3) rfl, n3, hbk4.cell (i := 4) rfl, q3, ql3, qc3, hbk4.cell (i := 5) rfl, ?_⟩
    rintro w5 rfl
    have hlt3 := hbk3.lt
    refine ⟨by show w.heap.size ≠ b; omega, ?_⟩
    have hf5 := Fr.newBlock (fun _ => False) w4 (.cells #[.int .i64 k3, .int .i64 o3, .string s3, .string t3, .int .i64 n3, .slice q3 ql3 qc3, .int .i64 k4, .int .i64 o4, .string s4, .string t4, .int .i64 n4, .slice p4 len4 cap4] 24)
    refine store6 (hbk4.frame hf5 fun h => h) rfl (v5 := .slice (some (⟨w4.heap.size, 0, none⟩ : Addr)) 2 2) fun w6 hw6 hbk6 hf6 => ?_
    rw [← hw6]
    have hi1 : IntKind.i64.wrap (i + 1) = i + 1 := wrap_i64 (by omega) (by omega)
    rw [hi1]
    have h4s := hf4'.size
    have hz3 := hf3.size
    refine ⟨⟨by omega, by omega, ((hf3.same hf4').same hf5).trans hf6 (fun _ _ h => h) fun i hi h => by omega, 6, 18, ⟨#[]⟩, ⟨#[]⟩, 0, _, 2, 2, hbk6, ?_⟩, by dsimp only; omega⟩
    have hrow : RowOf (fun i => μ i ∨ i = w.heap.size) w6 [joinF x (r.take i.toNat), r[i.toNat]'(by omega)]
        [.int .i64 k3, .int .i64 o3, .string s3, .string t3, .int .i64 n3, .slice q3 ql3 qc3, .int .i64 k4, .int .i64 o4, .string s4, .string t4, .int .i64 n4, .slice p4 len4 cap4] := by
      have hall : ∀ {y k o s t n q ql qc}, NdV (fun i => μ i ∨ i = w.heap.size) w3 y k o s t n q ql qc → NdV (fun i => μ i ∨ i = w.heap.size) w6 y k o s t n q ql qc := fun hy =>
        (((hy.frame hf4' fun _ _ h => h.elim).frame hf5 fun _ _ h => h.elim)).frame hf6 fun i _ h => .inr h
      exact ⟨_, _, _, _, _, _, _, _, [.int .i64 k4, .int .i64 o4, .string s4, .string t4, .int .i64 n4, .slice p4 len4 cap4], rfl, hall hv3, _, _, _, _, _, _, _, _, [], rfl, hall (hv4.anti fun i _ h => h.elim .inl fun h => .inr (by omega)), rfl⟩
    have hnew : Blk w6 w4.heap.size [.int .i64 k3, .int .i64 o3, .string s3, .string t3, .int .i64 n3, .slice q3 ql3 qc3, .int .i64 k4, .int .i64 o4, .string s4, .string t4, .int .i64 n4, .slice p4 len4 cap4] 24 :=
      (Blk.new w4 [.int .i64 k3, .int .i64 o3, .string s3, .string t3, .int .i64 n3, .slice q3 ql3 qc3, .int .i64 k4, .int .i64 o4, .string s4, .string t4, .int .i64 n4, .slice p4 len4 cap4] 24).frame hf6 fun h => by omega
    have hj : joinF x (r.take (i + 1).toNat) = .mk 6 18 ⟨#[]⟩ ⟨#[]⟩ 0 [joinF x (r.take i.toNat), r[i.toNat]'(by omega)] := by
      rw [show (i + 1).toNat = i.toNat + 1 from by omega, List.take_add_one, List.getElem?_eq_getElem (by omega)]
      exact joinF_snoc _ _ _
    rw [hj]
    exact NdV.of_row (l := [joinF x (r.take i.toNat), r[i.toNat]'(by omega)]) (a := ⟨w4.heap.size, 0, none⟩) (fun h => h.elim (fun h => by have := hμ _ h; simp at this; omega) fun h => by simp at h; omega) hrow fun j u hu => hnew.cell hu
  · simp only [decide_eq_false_iff_not] at hge
    have hi : i = (r.length : Int) := by simp at hge; omega
    subst hi
    refine ⟨_, rfl, ?_, hf3⟩
    have htk : r.take ((r.length : Int)).toNat = r := List.take_of_length_le (by simp)
    rw [htk] at hv3
    refine NdR.mk' (cap := qc3) (hv3.anti fun _ _ h => .inl h) (fun hm => by have := hμ _ hm; simp at this) hbk3.cell0 (hbk3.cell (i := 1) rfl) (hbk3.cell (i := 2) rfl) (hbk3.cell (i := 3) rfl) (hbk3.cell (i := 4) rfl) (hbk3.cell (i := 5) rfl)
end Go.Proofs.Ytjlkgedcpmoehaa
