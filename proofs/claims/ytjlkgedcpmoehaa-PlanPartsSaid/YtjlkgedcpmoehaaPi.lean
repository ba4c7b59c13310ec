/-
  Contract of the parser: what stands behind an operand.
-/
import Derived.Test.YtjlkgedcpmoehaaPh
set_option linter.unusedVariables false
set_option linter.unusedSimpArgs false
set_option maxRecDepth 100000
namespace Go.Proofs.Ytjlkgedcpmoehaa
open Go Go.Vc

/-- Three nodes in a new row. -/
theorem own_three {μ : Nat → Prop} {w : World} {base : Nat} {x y z : Nd} {k o : Int} {s t : ByteArray} {n : Int} {p : Option Addr} {len cap : Nat} {k' o' : Int} {s' t' : ByteArray} {n' : Int} {p' : Option Addr} {len' cap' : Nat} {k2 o2 : Int} {s2 t2 : ByteArray} {n2 : Int} {p2 : Option Addr} {len2 cap2 : Nat} (hb : base ≤ w.heap.size)
    (h : NdV μ w x k o s t n p len cap) (h' : NdV μ w y k' o' s' t' n' p' len' cap') (h2 : NdV μ w z k2 o2 s2 t2 n2 p2 len2 cap2) :
    OwnS μ (w.alloc (.cells #[.int .i64 k, .int .i64 o, .string s, .string t, .int .i64 n, .slice p len cap, .int .i64 k', .int .i64 o', .string s', .string t', .int .i64 n', .slice p' len' cap', .int .i64 k2, .int .i64 o2, .string s2, .string t2, .int .i64 n2, .slice p2 len2 cap2] 24)) base 24 [x, y, z] (.slice (some (⟨w.heap.size, 0, none⟩ : Addr)) 3 3) :=
  OwnS.lit (l := [x, y, z]) (xs := [.int .i64 k, .int .i64 o, .string s, .string t, .int .i64 n, .slice p len cap, .int .i64 k', .int .i64 o', .string s', .string t', .int .i64 n', .slice p' len' cap', .int .i64 k2, .int .i64 o2, .string s2, .string t2, .int .i64 n2, .slice p2 len2 cap2]) hb (by simp [maxLen])
    ⟨k, o, s, t, n, p, len, cap, [.int .i64 k', .int .i64 o', .string s', .string t', .int .i64 n', .slice p' len' cap', .int .i64 k2, .int .i64 o2, .string s2, .string t2, .int .i64 n2, .slice p2 len2 cap2], rfl, h, k', o', s', t', n', p', len', cap', [.int .i64 k2, .int .i64 o2, .string s2, .string t2, .int .i64 n2, .slice p2 len2 cap2], rfl, h', k2, o2, s2, t2, n2, p2, len2, cap2, [], rfl, h2, rfl⟩

set_option maxHeartbeats 8000000 in
theorem compare_of {N : Nat} (hX : ExprC N) : CompareC N := by
  intro K ν w I E D x k o s t m q ql qc hν hlt h0 hx hN
  refine Sh.ref17_Parser_compare_calls _ _ _ _ _ _ _ _ _ ?_
  unfold Sh.ref17_Parser_compare
  have hpl := h0.lt
  have i0 := h0.i0
  have i1 := h0.i1
  have hn := h0.len
  have d0 := h0.d0
  intro ba hba b hb hne
  have hF := Fr.refl (fun i => i = K.pb) w
  have h := h0.re h0 hF hν
  have hbp : K.pb ≠ b := by omega
  have hbap : K.pb ≠ ba := by omega
  -- the operand, at every later world
  have hxl : ∀ {w'}, Fr (fun i => i = K.pb) w w' → NdV (fun i => ν i ∨ w.heap.size ≤ i) w' x k o s t m q ql qc := fun hF => (hx.anti fun i hi h => h.elim id fun h => by omega).frame hF fun i _ hm => .inl (hm ▸ hν)
  intro w9 hf9 hb9 hc9
  have h := (h.re h0 hF hν).frame hf9 (fun i hi hm => .inr (by omega)) (fun hm => by omega)
  have hF := hF.lateP hf9 (fun i hi hm => by omega)
  refine ⟨E, h.cE, fun _ => ?_, fun hE => ?_⟩
  · intro w9 hf9 hb9 hc9
    have h := (h.re h0 hF hν).frame hf9 (fun i hi hm => .inr (by omega)) (fun hm => by omega)
    have hF := hF.lateP hf9 (fun i hi hm => by omega)
    exact ⟨x, k, o, s, t, m, q, ql, qc, rfl, (hxl hF).anti fun _ _ h => .inl h, ⟨I, E, by omega, h.anti fun _ _ h => .inl h⟩, hF⟩
  have hE0 : E = 0 := by simpa using hE
  intro w3 hw3
  have hbk : Blk w3 w9.heap.size [.string (⟨#[61]⟩ : ByteArray), .string (⟨#[60, 62]⟩ : ByteArray), .string (⟨#[60]⟩ : ByteArray), .string (⟨#[60, 61]⟩ : ByteArray), .string (⟨#[62]⟩ : ByteArray), .string (⟨#[62, 61]⟩ : ByteArray)] 9 := by rw [hw3]; exact Blk.new w9 [.string (⟨#[61]⟩ : ByteArray), .string (⟨#[60, 62]⟩ : ByteArray), .string (⟨#[60]⟩ : ByteArray), .string (⟨#[60, 61]⟩ : ByteArray), .string (⟨#[62]⟩ : ByteArray), .string (⟨#[62, 61]⟩ : ByteArray)] 9
  have hf3 : Fr (fun _ => False) w9 w3 := by rw [hw3]; exact alloc_still _ _
  have hz3 := hf3.size
  have hF3 := hF.same hf3.ext
  have h3 := h.still hf3
  have hzw := hF.size
  refine ⟨fun i _ _ _ _ _ _ _ _ w' => 0 ≤ i ∧ i ≤ 6 ∧ PS K (fun i => ν i ∨ w.heap.size ≤ i) w' I E D ∧ Fr (fun i => i = K.pb) w w' ∧ Fr (fun _ => False) w3 w', fun i _ _ _ _ _ _ _ _ _ => 6 - i.toNat, ⟨by omega, by omega, h3, hF3, Fr.refl _ _⟩, ?_⟩
  rintro i tk to ts tt tn tL tl tc w4 ⟨j0, j1, h, hF, hf4⟩
  have hz4 := hf4.size
  have key : i < 6 → ∃ u : ByteArray, w4.cell? ((⟨w9.heap.size, 0, none⟩ : Addr).add (i.toNat * 1)) = some (.string u) := by
    intro hi
    have hb4 := hbk.frame hf4 fun h => h
    have h6 : i = 0 ∨ i = 1 ∨ i = 2 ∨ i = 3 ∨ i = 4 ∨ i = 5 := by omega
    rcases h6 with rfl | rfl | rfl | rfl | rfl | rfl
    · exact ⟨_, hb4.cell (i := 0) rfl⟩
    · exact ⟨_, hb4.cell (i := 1) rfl⟩
    · exact ⟨_, hb4.cell (i := 2) rfl⟩
    · exact ⟨_, hb4.cell (i := 3) rfl⟩
    · exact ⟨_, hb4.cell (i := 4) rfl⟩
    · exact ⟨_, hb4.cell (i := 5) rfl⟩
  refine ⟨fun hi => ?_, fun hi => ?_⟩
  · have hi6 : i < 6 := by simpa using hi
    obtain ⟨u, hu⟩ := key hi6
    refine ⟨⟨j0, by simpa using hi6⟩, u, hu, ?_⟩
    refine Calls.tell (is_c u h) fun v w5 ⟨r5, hv, hr5, hf5⟩ => ?_
    subst hv
    have hz5 := hf5.size
    have hF := hF.same hf5.ext
    have h := h.still hf5
    refine ⟨r5, rfl, fun h => hf5.keep _ h fun e => e, fun h => hf5.keep _ h fun e => e, fun hr => ?_, fun _ => ?_⟩
    · have hIn := hr5 hr
      refine ⟨I, h.cI, by rw [add_block]; exact hbp, by rw [add_block]; exact hbap, by rw [h.cI]; rfl, h.nofroz 1, ?_⟩
      rw [wrap_i64 (x := I + 1) (by omega) (by omega)]
      have hF := hF.same (PS.set_fr (K := K) 1 (.int .i64 (I + 1)))
      have h := h.setI (.inl hν) (J := I + 1) (by omega) (by omega)
      intro w6 hf6 hb6 hba6
      have h := (h.re h0 hF hν).frame hf6 (fun i hi hm => .inr (by omega)) (fun hm => by omega)
      have hF := hF.lateP hf6 (fun i hi hm => by omega)
      refine ⟨fun i => i = K.pb, ?_⟩
      refine Calls.tell (hX K (fun i => ν i ∨ i = b ∨ i = ba) w6 (I+1) _ D 5 (.inl hν) (fun i hi => by rcases hi with hi | hi | hi; exact Nat.lt_of_lt_of_le (hlt i hi) hF.size; omega; omega) ((h.re h0 hF hν).anti fun i _ h => h.elim .inl fun h => .inr (by omega)) (by omega) (by omega) (by omega)) fun v w7 ⟨y, k2, o2, s2, t2, m2, q2, ql2, qc2, hv, hy, ⟨J7, F7, hJ7, h7⟩, hf7⟩ => ?_
      subst hv
      have hz7 := hf7.size
      have hF := hF.same hf7
      refine ⟨k2, o2, s2, t2, m2, q2, ql2, qc2, rfl, fun h => hf7.keep _ h fun e => by omega, fun h => hf7.keep _ h fun e => by omega, hf7.mono fun _ _ h => .inl h, ?_⟩
      intro w8 hw8
      have hf8 : Fr (fun _ => False) w7 w8 := by rw [hw8]; exact alloc_still _ _
      have hs : NdS (fun i => ν i ∨ i = b ∨ i = ba) w8 [x, y] (some (⟨w7.heap.size, 0, none⟩ : Addr)) 2 := by
        rw [hw8]
        refine (own_two (base := w7.heap.size) (Nat.le_refl _) ((hxl hF).anti fun i hi h => h.elim .inl fun h => .inr (by omega)) hy).nds fun i hi => ?_
        rcases hi with hi | hi | hi
        · exact Nat.lt_of_lt_of_le (hlt i hi) hF.size
        · omega
        · omega
      have hF := hF.same hf8.ext
      have h := h7.still hf8
      refine ⟨(hf7.same hf8.ext).mono fun _ _ h => .inl h, ?_⟩
      intro w9 hf9 hb9 hc9
      have h := (h.re h0 hF hν).frame hf9 (fun i hi hm => .inr (by omega)) (fun hm => by omega)
      have hF := hF.lateP hf9 (fun i hi hm => by omega)
      have hs := hs.frame hf9 (fun i hi hm => .inr hm)
      exact eNode h0 hF hν (by omega) h (hs.anti fun _ _ h => .inl h) (Nat.le_refl _) _ _ _ _ _
    · rw [wrap_i64 (by omega) (by omega)]
      exact ⟨⟨by omega, by omega, h, hF, hf4.same hf5⟩, by dsimp only; omega⟩
  refine Calls.tell (take_c _ (.inl hν) h) fun v w5 ⟨r5, hv, hr5, hr5', hf5⟩ => ?_
  subst hv
  have hz5 := hf5.size
  have hF := hF.same hf5
  refine ⟨r5, rfl, fun h => hf5.keep _ h fun e => by omega, fun h => hf5.keep _ h fun e => by omega, fun hr => ?_, fun hr => ?_⟩
  · -- IS
    have h := (hr5 hr).2.2
    intro w6 hw6
    have hf6 : Fr (fun _ => False) w5 w6 := by rw [hw6]; exact alloc_still _ _
    have hz6 := hf6.size
    have hs : NdS (fun i => ν i ∨ i = b ∨ i = ba) w6 [x] (some (⟨w5.heap.size, 0, none⟩ : Addr)) 1 := by
      rw [hw6]
      refine (own_one (base := w5.heap.size) (Nat.le_refl _) ((hxl hF).anti fun i hi h => h.elim .inl fun h => .inr (by omega))).nds fun i hi => ?_
      rcases hi with hi | hi | hi
      · exact Nat.lt_of_lt_of_le (hlt i hi) hF.size
      · omega
      · omega
    have hs := hs.anti (ν := fun i => ν i ∨ i = b ∨ i = ba ∨ w6.heap.size ≤ i) fun i hi h => h.elim .inl fun h => .inr (by omega)
    have hF := hF.same hf6.ext
    have h := h.still hf6
    have hzF := hF.size
    intro bn hbn hn1 hn2
    intro w9 hf9 hb9 hc9 hd9
    have h := (h.re h0 hF hν).frame hf9 (fun i hi hm => .inr (by omega)) (fun hm => by omega)
    have hF := hF.lateP hf9 (fun i hi hm => by omega)
    have hs := hs.frame hf9 (fun i hi hm => .inr (by omega))
    refine Calls.tell (take_c _ (.inl hν) h) fun v w8 ⟨r8, hv, hr8, hr8', hf8⟩ => ?_
    subst hv
    have hz8 := hf8.size
    have hF := hF.same hf8
    have hs := hs.frame hf8 (fun i _ hm => .inl (hm ▸ hν))
    refine ⟨r8, rfl, fun h => hf8.keep _ h fun e => by omega, fun h => hf8.keep _ h fun e => by omega, fun h => hf8.keep _ h fun e => by omega, fun hr => ?_, fun hr => ?_⟩
    · have h := (hr8 hr).2.2
      intro w9 hf9 hb9 hc9 hd9
      have h := (h.re h0 hF hν).frame hf9 (fun i hi hm => .inr (by omega)) (fun hm => by omega)
      have hF := hF.lateP hf9 (fun i hi hm => by omega)
      have hs := hs.frame hf9 (fun i hi hm => .inr (by omega))
      refine Calls.tell (want_c _ (.inl hν) h) fun v w7 ⟨hv, ⟨J7, F7, hJ7, h7⟩, hf7⟩ => ?_
      subst hv
      have hz7 := hf7.size
      have hF := hF.same hf7
      have h := h7
      have hs := hs.frame hf7 (fun i _ hm => .inl (hm ▸ hν))
      refine ⟨rfl, fun h => hf7.keep _ h fun e => by omega, fun h => hf7.keep _ h fun e => by omega, fun h => hf7.keep _ h fun e => by omega, ?_⟩
      intro w9 hf9 hb9 hc9 hd9
      have h := (h.re h0 hF hν).frame hf9 (fun i hi hm => .inr (by omega)) (fun hm => by omega)
      have hF := hF.lateP hf9 (fun i hi hm => by omega)
      have hs := hs.frame hf9 (fun i hi hm => .inr (by omega))
      exact eNode h0 hF hν (by omega) h (hs.anti fun _ _ h => .inl h) (Nat.le_refl _) _ _ _ _ _
    · have h := hr8' hr
      refine Calls.tell (want_c _ (.inl hν) h) fun v w7 ⟨hv, ⟨J7, F7, hJ7, h7⟩, hf7⟩ => ?_
      subst hv
      have hz7 := hf7.size
      have hF := hF.same hf7
      have h := h7
      have hs := hs.frame hf7 (fun i _ hm => .inl (hm ▸ hν))
      refine ⟨rfl, fun h => hf7.keep _ h fun e => by omega, fun h => hf7.keep _ h fun e => by omega, fun h => hf7.keep _ h fun e => by omega, ?_⟩
      intro w9 hf9 hb9 hc9 hd9
      have h := (h.re h0 hF hν).frame hf9 (fun i hi hm => .inr (by omega)) (fun hm => by omega)
      have hF := hF.lateP hf9 (fun i hi hm => by omega)
      have hs := hs.frame hf9 (fun i hi hm => .inr (by omega))
      exact eNode h0 hF hν (by omega) h (hs.anti fun _ _ h => .inl h) (Nat.le_refl _) _ _ _ _ _
  have h := hr5' hr
  refine Calls.tell (is_c _ h) fun v w6 ⟨r6, hv, hr6, hf6⟩ => ?_
  subst hv
  have hz6 := hf6.size
  have hF := hF.same hf6.ext
  have h := h.still hf6
  refine ⟨r6, rfl, fun h => hf6.keep _ h fun e => e, fun h => hf6.keep _ h fun e => e, ?_⟩
  refine ⟨fun _ w' => ∃ (J F : Int), PS K (fun i => ν i ∨ w.heap.size ≤ i) w' J F D ∧ I ≤ J ∧ Fr (fun i => i = K.pb) w w' ∧ b < w'.heap.size ∧ ba < w'.heap.size, ⟨fun hr => ?_, fun _ => ⟨I, E, h, by omega, hF, by omega, by omega⟩⟩, ?_⟩
  · have hIn := hr6 hr
    refine ⟨I, h.cI, by rw [add_block]; exact hbp, by rw [add_block]; exact hbap, by rw [h.cI]; rfl, h.nofroz 1, ?_⟩
    rw [wrap_i64 (x := I + 1) (by omega) (by omega)]
    exact ⟨I + 1, E, h.setI (.inl hν) (J := I + 1) (by omega) (by omega), by omega, hF.same (PS.set_fr (K := K) 1 (.int .i64 (I + 1))), by simp only [setCell_size]; omega, by simp only [setCell_size]; omega⟩
  clear h hF
  rintro not w7 ⟨J, F, h, hJ, hF, hb7, hba7⟩
  have jj0 := h.i0
  have jj1 := h.i1
  have hz7 := hF.size
  refine Calls.tell (take_c _ (.inl hν) h) fun v w8 ⟨r8, hv, hr8, hr8', hf8⟩ => ?_
  subst hv
  have hz8 := hf8.size
  have hF := hF.same hf8
  refine ⟨r8, rfl, fun h => hf8.keep _ h fun e => by omega, fun h => hf8.keep _ h fun e => by omega, fun hr => ?_, fun hr => ?_⟩
  · -- LIKE
    obtain ⟨_, hJn, h⟩ := hr8 hr
    intro w9 hf9 hb9 hc9
    have h := (h.re h0 hF hν).frame hf9 (fun i hi hm => .inr (by omega)) (fun hm => by omega)
    have hF := hF.lateP hf9 (fun i hi hm => by omega)
    clear hf8
    refine ⟨fun i => i = K.pb ∨ i = b ∨ i = ba, ?_, ?_⟩
    · refine Calls.tell (hX K (fun i => ν i ∨ i = b ∨ i = ba) _ (J+1) _ D 5 (.inl hν) (fun i hi => by rcases hi with hi | hi | hi; exact Nat.lt_of_lt_of_le (hlt i hi) hF.size; omega; omega) ((h.re h0 hF hν).anti fun i _ h => h.elim .inl fun h => .inr (by omega)) (by omega) (by omega) (by omega)) fun v w11 ⟨y, k2, o2, s2, t2, m2, q2, ql2, qc2, hv, hy, ⟨J11, F11, hJ11, h11⟩, hf11⟩ => ?_
      subst hv
      have hz11 := hf11.size
      have hF := hF.same hf11
      have h := h11
      have hzF := hF.size
      refine ⟨k2, o2, s2, t2, m2, q2, ql2, qc2, rfl, fun h => hf11.keep _ h fun e => by omega, fun h => hf11.keep _ h fun e => by omega, hf11.mono fun _ _ h => .inl (.inl h), ?_, ?_⟩
      · intro w12 hw12
        have hf12 : Fr (fun _ => False) w11 w12 := by rw [hw12]; exact alloc_still _ _
        have hzs : w12.heap.size = w11.heap.size + 1 := by rw [hw12]; exact alloc_size _ _
        have hO : OwnS (fun i => ν i ∨ i = b ∨ i = ba ∨ w11.heap.size < i) w12 w11.heap.size 24 [x, y] (.slice (some (⟨w11.heap.size, 0, none⟩ : Addr)) 2 2) := by
          rw [hw12]
          exact own_two (Nat.le_refl _) ((hxl hF).anti fun i hi h => h.elim .inl fun h => .inr (by omega)) (hy.anti fun i hi h => h.elim .inl fun h => .inr (by omega))
        have hF := hF.same hf12.ext
        have h := h.still hf12
        refine ⟨(hf11.same hf12.ext).mono fun _ _ h => .inl (.inl h), ?_⟩
        intro bn hbn hn1 hn2
        have hO := hO.anti (ν := fun i => ν i ∨ i = b ∨ i = ba ∨ i = bn) fun i hi h => .inl (h.elim .inl fun h => .inr (by omega))
        intro w9 hf9 hb9 hc9 hd9
        have hz9 := hf9.size
        have h := (h.re h0 hF hν).frame hf9 (fun i hi hm => .inr (by omega)) (fun hm => by omega)
        have hF := hF.lateP hf9 (fun i hi hm => by omega)
        have hO := hO.frame hf9 (fun i hi hm => ⟨.inr (by omega), fun e => by simp [Value.ownBlock] at e; omega⟩)
        refine Calls.tell (take_c _ (.inl hν) h) fun v w8 ⟨r8, hv, hr8, hr8', hf8⟩ => ?_
        subst hv
        have hz8 := hf8.size
        have hF := hF.same hf8
        have hO := hO.frame hf8 (fun i _ hm => ⟨.inl (hm ▸ hν), fun e => by simp [Value.ownBlock] at e; omega⟩)
        refine ⟨r8, rfl, fun h => hf8.keep _ h fun e => by omega, fun h => hf8.keep _ h fun e => by omega, fun h => hf8.keep _ h fun e => by omega, fun hr => ?_, fun hr => ?_⟩
        · obtain ⟨_, hJn8, h⟩ := hr8 hr
          intro w9 hf9 hb9 hc9 hd9
          have hz9 := hf9.size
          have h := (h.re h0 hF hν).frame hf9 (fun i hi hm => .inr (by omega)) (fun hm => by omega)
          have hF := hF.lateP hf9 (fun i hi hm => by omega)
          have hO := hO.frame hf9 (fun i hi hm => ⟨.inr (by omega), fun e => by simp [Value.ownBlock] at e; omega⟩)
          refine ⟨fun i => i = K.pb ∨ i = w11.heap.size, ?_, ?_⟩
          · refine Calls.tell (hX K (fun i => ν i ∨ i = b ∨ i = ba ∨ i = bn ∨ i = w11.heap.size) _ (J11+1) _ D 5 (.inl hν) (fun i hi => by rcases hi with hi | hi | hi | hi | hi; exact Nat.lt_of_lt_of_le (hlt i hi) hF.size; omega; omega; omega; omega) ((h.re h0 hF hν).anti fun i _ h => h.elim .inl fun h => .inr (by omega)) (by omega) (by omega) (by omega)) fun v w14 ⟨z, k3, o3, s3, t3, m3, q3, ql3, qc3, hv, hz, ⟨J14, F14, hJ14, h14⟩, hf14⟩ => ?_
            subst hv
            have hz14 := hf14.size
            have hF := hF.same hf14
            have hO := hO.frame hf14 (fun i _ hm => ⟨.inl (hm ▸ hν), fun e => by simp [Value.ownBlock] at e; omega⟩)
            refine ⟨k3, o3, s3, t3, m3, q3, ql3, qc3, rfl, fun h => hf14.keep _ h fun e => by omega, fun h => hf14.keep _ h fun e => by omega, fun h => hf14.keep _ h fun e => by omega, hf14.mono fun _ _ h => .inl (.inl h), ?_⟩
            intro w15 hw15
            have hf15 : Fr (fun _ => False) w14 w15 := by rw [hw15]; exact alloc_still _ _
            have hzt : w15.heap.size = w14.heap.size + 1 := by rw [hw15]; exact alloc_size _ _
            have hl : NdS (fun i => ν i ∨ i = b ∨ i = ba ∨ i = bn ∨ i = w11.heap.size) w15 [z] (some (⟨w14.heap.size, 0, none⟩ : Addr)) 1 := by
              rw [hw15]
              refine (own_one (base := w14.heap.size) (Nat.le_refl _) hz).nds fun i hi => ?_
              have hzw := hF.size
              rcases hi with hi | hi | hi | hi | hi
              · exact Nat.lt_of_lt_of_le (hlt i hi) hF.size
              · omega
              · omega
              · omega
              · omega
            have hF := hF.same hf15.ext
            have hO := hO.frame hf15 (fun _ _ h => h.elim)
            have h := h14.still hf15
            refine ⟨(hf14.same hf15.ext).mono fun _ _ h => .inl (.inl h), ?_⟩
            obtain ⟨v', w16, hr16, hO16, hf16, hat16⟩ := hO.appendAt T24 22 (hl.anti fun i hi h => h.elim (fun h => h.elim .inl fun h => .inr (by omega)) fun h => .inr (by simp [Value.ownBlock] at h; omega)) (fun h => by cases h) (by omega) (by simp)
            obtain ⟨p16, c16, hv16⟩ := hO16.shape
            subst hv16
            have hown : ∀ i, (Value.slice (some (⟨w11.heap.size, 0, none⟩ : Addr)) 2 2).ownBlock = some i → i = w11.heap.size := fun i e => by simp [Value.ownBlock] at e; omega
            have hown2 : ∀ i, i = w11.heap.size → i < w15.heap.size := fun i e => by omega
            refine ⟨p16, _, c16, w16, hr16, fun h => hf16.keep _ h fun e => by have := hown _ e; omega, fun h => hf16.keep _ h fun e => by have := hown _ e; omega, fun h => hf16.keep _ h fun e => by have := hown _ e; omega, (((hf14.same hf15.ext).mono (N := fun i => i = K.pb ∨ i = w11.heap.size) fun _ _ h => .inl h).trans hf16 (fun _ _ h => h) (fun i _ e => .inr (hown i e))).mono fun _ _ h => .inl h, ?_⟩
            have h := (h.re h0 hF hν).frame hf16 (fun i hi e => .inr (by have := hown i e; omega)) (fun e => by have := hown _ e; omega)
            have hF := hF.lateP hf16 (fun i hi e => by have := hown i e; omega)
            have hcap : ([x, y] ++ [z]).length ≤ c16 := by
              obtain ⟨xs, ho, _⟩ := hO16
              rcases ho.2 with ⟨e, e'⟩ | ⟨g, cap, cur, e, _, _, e', _⟩
              · simp at e'
              · cases e; exact e'
            have hs := hO16.ndsAt (fun i e hi => by
              have hi2 : i = w11.heap.size ∨ i = w15.heap.size := hat16.elim (fun h => .inl (hown i (h ▸ e))) (fun h => .inr (by rw [h] at e; cases e; rfl))
              rcases hi with hi | hi | hi | hi
              · have := hlt i hi
                omega
              · omega
              · omega
              · omega)
            have hz16 := hf16.size
            intro w9 hf9 hb9 hc9 hd9
            have hz9 := hf9.size
            have h := (h.re h0 hF hν).frame hf9 (fun i hi hm => .inr (by omega)) (fun hm => by omega)
            have hF := hF.lateP hf9 (fun i hi hm => by omega)
            have hs := hs.frame hf9 (fun i hi hm => .inr (by omega))
            exact eNode h0 hF hν (by omega) h (hs.anti fun _ _ h => .inl h) hcap _ _ _ _ _
          · refine Calls.tell (hX K (fun i => ν i ∨ i = b ∨ i = ba ∨ i = bn ∨ i = w11.heap.size) _ (J11+1) _ D 5 (.inl hν) (fun i hi => by rcases hi with hi | hi | hi | hi | hi; exact Nat.lt_of_lt_of_le (hlt i hi) hF.size; omega; omega; omega; omega) ((h.re h0 hF hν).anti fun i _ h => h.elim .inl fun h => .inr (by omega)) (by omega) (by omega) (by omega)) fun v w14 ⟨z, k3, o3, s3, t3, m3, q3, ql3, qc3, hv, hz, ⟨J14, F14, hJ14, h14⟩, hf14⟩ => ?_
            subst hv
            have hz14 := hf14.size
            have hF := hF.same hf14
            have hO := hO.frame hf14 (fun i _ hm => ⟨.inl (hm ▸ hν), fun e => by simp [Value.ownBlock] at e; omega⟩)
            refine ⟨k3, o3, s3, t3, m3, q3, ql3, qc3, rfl, fun h => hf14.keep _ h fun e => by omega, fun h => hf14.keep _ h fun e => by omega, fun h => hf14.keep _ h fun e => by omega, hf14.mono fun _ _ h => .inl (.inl h), ?_⟩
            refine ⟨?_, ?_⟩
            · intro w15 hw15
              have hf15 : Fr (fun _ => False) w14 w15 := by rw [hw15]; exact alloc_still _ _
              have hzt : w15.heap.size = w14.heap.size + 1 := by rw [hw15]; exact alloc_size _ _
              have hl : NdS (fun i => ν i ∨ i = b ∨ i = ba ∨ i = bn ∨ i = w11.heap.size) w15 [z] (some (⟨w14.heap.size, 0, none⟩ : Addr)) 1 := by
                rw [hw15]
                refine (own_one (base := w14.heap.size) (Nat.le_refl _) hz).nds fun i hi => ?_
                have hzw := hF.size
                rcases hi with hi | hi | hi | hi | hi
                · exact Nat.lt_of_lt_of_le (hlt i hi) hF.size
                · omega
                · omega
                · omega
                · omega
              have hF := hF.same hf15.ext
              have hO := hO.frame hf15 (fun _ _ h => h.elim)
              have h := h14.still hf15
              refine ⟨(hf14.same hf15.ext).mono fun _ _ h => .inl (.inl h), ?_⟩
              obtain ⟨v', w16, hr16, hO16, hf16, hat16⟩ := hO.appendAt T24 22 (hl.anti fun i hi h => h.elim (fun h => h.elim .inl fun h => .inr (by omega)) fun h => .inr (by simp [Value.ownBlock] at h; omega)) (fun h => by cases h) (by omega) (by simp)
              obtain ⟨p16, c16, hv16⟩ := hO16.shape
              subst hv16
              have hown : ∀ i, (Value.slice (some (⟨w11.heap.size, 0, none⟩ : Addr)) 2 2).ownBlock = some i → i = w11.heap.size := fun i e => by simp [Value.ownBlock] at e; omega
              have hown2 : ∀ i, i = w11.heap.size → i < w15.heap.size := fun i e => by omega
              refine ⟨p16, _, c16, w16, hr16, fun h => hf16.keep _ h fun e => by have := hown _ e; omega, fun h => hf16.keep _ h fun e => by have := hown _ e; omega, fun h => hf16.keep _ h fun e => by have := hown _ e; omega, (((hf14.same hf15.ext).mono (N := fun i => i = K.pb ∨ i = w11.heap.size) fun _ _ h => .inl h).trans hf16 (fun _ _ h => h) (fun i _ e => .inr (hown i e))).mono fun _ _ h => .inl h, ?_⟩
              have h := (h.re h0 hF hν).frame hf16 (fun i hi e => .inr (by have := hown i e; omega)) (fun e => by have := hown _ e; omega)
              have hF := hF.lateP hf16 (fun i hi e => by have := hown i e; omega)
              have hcap : ([x, y] ++ [z]).length ≤ c16 := by
                obtain ⟨xs, ho, _⟩ := hO16
                rcases ho.2 with ⟨e, e'⟩ | ⟨g, cap, cur, e, _, _, e', _⟩
                · simp at e'
                · cases e; exact e'
              have hs := hO16.ndsAt (fun i e hi => by
                have hi2 : i = w11.heap.size ∨ i = w15.heap.size := hat16.elim (fun h => .inl (hown i (h ▸ e))) (fun h => .inr (by rw [h] at e; cases e; rfl))
                rcases hi with hi | hi | hi | hi
                · have := hlt i hi
                  omega
                · omega
                · omega
                · omega)
              have hz16 := hf16.size
              intro w9 hf9 hb9 hc9 hd9
              have hz9 := hf9.size
              have h := (h.re h0 hF hν).frame hf9 (fun i hi hm => .inr (by omega)) (fun hm => by omega)
              have hF := hF.lateP hf9 (fun i hi hm => by omega)
              have hs := hs.frame hf9 (fun i hi hm => .inr (by omega))
              exact eNode h0 hF hν (by omega) h (hs.anti fun _ _ h => .inl h) hcap _ _ _ _ _
            · intro w15 hw15
              have hf15 : Fr (fun _ => False) w14 w15 := by rw [hw15]; exact alloc_still _ _
              have hzt : w15.heap.size = w14.heap.size + 1 := by rw [hw15]; exact alloc_size _ _
              have hl : NdS (fun i => ν i ∨ i = b ∨ i = ba ∨ i = bn ∨ i = w11.heap.size) w15 [z] (some (⟨w14.heap.size, 0, none⟩ : Addr)) 1 := by
                rw [hw15]
                refine (own_one (base := w14.heap.size) (Nat.le_refl _) hz).nds fun i hi => ?_
                have hzw := hF.size
                rcases hi with hi | hi | hi | hi | hi
                · exact Nat.lt_of_lt_of_le (hlt i hi) hF.size
                · omega
                · omega
                · omega
                · omega
              have hF := hF.same hf15.ext
              have hO := hO.frame hf15 (fun _ _ h => h.elim)
              have h := h14.still hf15
              refine ⟨(hf14.same hf15.ext).mono fun _ _ h => .inl (.inl h), ?_⟩
              obtain ⟨v', w16, hr16, hO16, hf16, hat16⟩ := hO.appendAt T24 22 (hl.anti fun i hi h => h.elim (fun h => h.elim .inl fun h => .inr (by omega)) fun h => .inr (by simp [Value.ownBlock] at h; omega)) (fun h => by cases h) (by omega) (by simp)
              obtain ⟨p16, c16, hv16⟩ := hO16.shape
              subst hv16
              have hown : ∀ i, (Value.slice (some (⟨w11.heap.size, 0, none⟩ : Addr)) 2 2).ownBlock = some i → i = w11.heap.size := fun i e => by simp [Value.ownBlock] at e; omega
              have hown2 : ∀ i, i = w11.heap.size → i < w15.heap.size := fun i e => by omega
              refine ⟨p16, _, c16, w16, hr16, fun h => hf16.keep _ h fun e => by have := hown _ e; omega, fun h => hf16.keep _ h fun e => by have := hown _ e; omega, fun h => hf16.keep _ h fun e => by have := hown _ e; omega, (((hf14.same hf15.ext).mono (N := fun i => i = K.pb ∨ i = w11.heap.size) fun _ _ h => .inl h).trans hf16 (fun _ _ h => h) (fun i _ e => .inr (hown i e))).mono fun _ _ h => .inl h, ?_⟩
              have h := (h.re h0 hF hν).frame hf16 (fun i hi e => .inr (by have := hown i e; omega)) (fun e => by have := hown _ e; omega)
              have hF := hF.lateP hf16 (fun i hi e => by have := hown i e; omega)
              have hcap : ([x, y] ++ [z]).length ≤ c16 := by
                obtain ⟨xs, ho, _⟩ := hO16
                rcases ho.2 with ⟨e, e'⟩ | ⟨g, cap, cur, e, _, _, e', _⟩
                · simp at e'
                · cases e; exact e'
              have hs := hO16.ndsAt (fun i e hi => by
                have hi2 : i = w11.heap.size ∨ i = w15.heap.size := hat16.elim (fun h => .inl (hown i (h ▸ e))) (fun h => .inr (by rw [h] at e; cases e; rfl))
                rcases hi with hi | hi | hi | hi
                · have := hlt i hi
                  omega
                · omega
                · omega
                · omega)
              have hz16 := hf16.size
              intro w9 hf9 hb9 hc9 hd9
              have hz9 := hf9.size
              have h := (h.re h0 hF hν).frame hf9 (fun i hi hm => .inr (by omega)) (fun hm => by omega)
              have hF := hF.lateP hf9 (fun i hi hm => by omega)
              have hs := hs.frame hf9 (fun i hi hm => .inr (by omega))
              exact eNode h0 hF hν (by omega) h (hs.anti fun _ _ h => .inl h) hcap _ _ _ _ _
        · have h := hr8' hr
          have hs := hO.ndsAt (fun i e hi => by
            have hi2 : i = w11.heap.size := by simp [Value.ownBlock] at e; omega
            rcases hi with hi | hi | hi | hi
            · have := hlt i hi
              omega
            · omega
            · omega
            · omega)
          intro w9 hf9 hb9 hc9 hd9
          have hz9 := hf9.size
          have h := (h.re h0 hF hν).frame hf9 (fun i hi hm => .inr (by omega)) (fun hm => by omega)
          have hF := hF.lateP hf9 (fun i hi hm => by omega)
          have hs := hs.frame hf9 (fun i hi hm => .inr (by omega))
          exact eNode h0 hF hν (by omega) h (hs.anti fun _ _ h => .inl h) (Nat.le_refl _) _ _ _ _ _
      · intro bn hbn hn1 hn2 w13 hf13 hb13 hc13 hd13
        have hz13 := hf13.size
        have hy := (hy.anti (ν := fun i => ν i ∨ i = b ∨ i = ba ∨ i = bn) fun i hi h => h.elim .inl fun h => .inr (by omega)).frame hf13 (fun i hi hm => .inr (by omega))
        have h := (h.re h0 hF hν).frame hf13 (fun i hi hm => .inr (by omega)) (fun hm => by omega)
        have hF := hF.lateP hf13 (fun i hi hm => by omega)
        intro w12 hw12
        have hf12 : Fr (fun _ => False) w13 w12 := by rw [hw12]; exact alloc_still _ _
        have hzs : w12.heap.size = w13.heap.size + 1 := by rw [hw12]; exact alloc_size _ _
        have hO : OwnS (fun i => ν i ∨ i = b ∨ i = ba ∨ i = bn) w12 w13.heap.size 24 [x, y] (.slice (some (⟨w13.heap.size, 0, none⟩ : Addr)) 2 2) := by
          rw [hw12]
          exact own_two (Nat.le_refl _) ((hxl hF).anti fun i hi h => h.elim .inl fun h => .inr (by omega)) hy
        have hF := hF.same hf12.ext
        have h := h.still hf12
        refine ⟨(((hf11.mono (N := fun i => i = K.pb ∨ i = b ∨ i = ba) fun _ _ h => .inl h).trans hf13 (fun _ _ h => h) (fun i hi hm => by omega)).same hf12.ext).mono fun _ _ h => .inl h, ?_⟩
        intro w9 hf9 hb9 hc9 hd9
        have hz9 := hf9.size
        have h := (h.re h0 hF hν).frame hf9 (fun i hi hm => .inr (by omega)) (fun hm => by omega)
        have hF := hF.lateP hf9 (fun i hi hm => by omega)
        have hO := hO.frame hf9 (fun i hi hm => ⟨.inr (by omega), fun e => by simp [Value.ownBlock] at e; omega⟩)
        refine Calls.tell (take_c _ (.inl hν) h) fun v w8 ⟨r8, hv, hr8, hr8', hf8⟩ => ?_
        subst hv
        have hz8 := hf8.size
        have hF := hF.same hf8
        have hO := hO.frame hf8 (fun i _ hm => ⟨.inl (hm ▸ hν), fun e => by simp [Value.ownBlock] at e; omega⟩)
        refine ⟨r8, rfl, fun h => hf8.keep _ h fun e => by omega, fun h => hf8.keep _ h fun e => by omega, fun h => hf8.keep _ h fun e => by omega, fun hr => ?_, fun hr => ?_⟩
        · obtain ⟨_, hJn8, h⟩ := hr8 hr
          intro w9 hf9 hb9 hc9 hd9
          have hz9 := hf9.size
          have h := (h.re h0 hF hν).frame hf9 (fun i hi hm => .inr (by omega)) (fun hm => by omega)
          have hF := hF.lateP hf9 (fun i hi hm => by omega)
          have hO := hO.frame hf9 (fun i hi hm => ⟨.inr (by omega), fun e => by simp [Value.ownBlock] at e; omega⟩)
          refine ⟨fun i => i = K.pb ∨ i = w13.heap.size, ?_, ?_⟩
          · refine Calls.tell (hX K (fun i => ν i ∨ i = b ∨ i = ba ∨ i = bn ∨ i = w13.heap.size) _ (J11+1) _ D 5 (.inl hν) (fun i hi => by rcases hi with hi | hi | hi | hi | hi; exact Nat.lt_of_lt_of_le (hlt i hi) hF.size; omega; omega; omega; omega) ((h.re h0 hF hν).anti fun i _ h => h.elim .inl fun h => .inr (by omega)) (by omega) (by omega) (by omega)) fun v w14 ⟨z, k3, o3, s3, t3, m3, q3, ql3, qc3, hv, hz, ⟨J14, F14, hJ14, h14⟩, hf14⟩ => ?_
            subst hv
            have hz14 := hf14.size
            have hF := hF.same hf14
            have hO := hO.frame hf14 (fun i _ hm => ⟨.inl (hm ▸ hν), fun e => by simp [Value.ownBlock] at e; omega⟩)
            refine ⟨k3, o3, s3, t3, m3, q3, ql3, qc3, rfl, fun h => hf14.keep _ h fun e => by omega, fun h => hf14.keep _ h fun e => by omega, fun h => hf14.keep _ h fun e => by omega, hf14.mono fun _ _ h => .inl (.inl h), ?_⟩
            intro w15 hw15
            have hf15 : Fr (fun _ => False) w14 w15 := by rw [hw15]; exact alloc_still _ _
            have hzt : w15.heap.size = w14.heap.size + 1 := by rw [hw15]; exact alloc_size _ _
            have hl : NdS (fun i => ν i ∨ i = b ∨ i = ba ∨ i = bn ∨ i = w13.heap.size) w15 [z] (some (⟨w14.heap.size, 0, none⟩ : Addr)) 1 := by
              rw [hw15]
              refine (own_one (base := w14.heap.size) (Nat.le_refl _) hz).nds fun i hi => ?_
              have hzw := hF.size
              rcases hi with hi | hi | hi | hi | hi
              · exact Nat.lt_of_lt_of_le (hlt i hi) hF.size
              · omega
              · omega
              · omega
              · omega
            have hF := hF.same hf15.ext
            have hO := hO.frame hf15 (fun _ _ h => h.elim)
            have h := h14.still hf15
            refine ⟨(hf14.same hf15.ext).mono fun _ _ h => .inl (.inl h), ?_⟩
            obtain ⟨v', w16, hr16, hO16, hf16, hat16⟩ := hO.appendAt T24 22 (hl.anti fun i hi h => h.elim (fun h => h.elim .inl fun h => .inr (by omega)) fun h => .inr (by simp [Value.ownBlock] at h; omega)) (fun h => by cases h) (by omega) (by simp)
            obtain ⟨p16, c16, hv16⟩ := hO16.shape
            subst hv16
            have hown : ∀ i, (Value.slice (some (⟨w13.heap.size, 0, none⟩ : Addr)) 2 2).ownBlock = some i → i = w13.heap.size := fun i e => by simp [Value.ownBlock] at e; omega
            have hown2 : ∀ i, i = w13.heap.size → i < w15.heap.size := fun i e => by omega
            refine ⟨p16, _, c16, w16, hr16, fun h => hf16.keep _ h fun e => by have := hown _ e; omega, fun h => hf16.keep _ h fun e => by have := hown _ e; omega, fun h => hf16.keep _ h fun e => by have := hown _ e; omega, (((hf14.same hf15.ext).mono (N := fun i => i = K.pb ∨ i = w13.heap.size) fun _ _ h => .inl h).trans hf16 (fun _ _ h => h) (fun i _ e => .inr (hown i e))).mono fun _ _ h => .inl h, ?_⟩
            have h := (h.re h0 hF hν).frame hf16 (fun i hi e => .inr (by have := hown i e; omega)) (fun e => by have := hown _ e; omega)
            have hF := hF.lateP hf16 (fun i hi e => by have := hown i e; omega)
            have hcap : ([x, y] ++ [z]).length ≤ c16 := by
              obtain ⟨xs, ho, _⟩ := hO16
              rcases ho.2 with ⟨e, e'⟩ | ⟨g, cap, cur, e, _, _, e', _⟩
              · simp at e'
              · cases e; exact e'
            have hs := hO16.ndsAt (fun i e hi => by
              have hi2 : i = w13.heap.size ∨ i = w15.heap.size := hat16.elim (fun h => .inl (hown i (h ▸ e))) (fun h => .inr (by rw [h] at e; cases e; rfl))
              rcases hi with hi | hi | hi | hi
              · have := hlt i hi
                omega
              · omega
              · omega
              · omega)
            have hz16 := hf16.size
            intro w9 hf9 hb9 hc9 hd9
            have hz9 := hf9.size
            have h := (h.re h0 hF hν).frame hf9 (fun i hi hm => .inr (by omega)) (fun hm => by omega)
            have hF := hF.lateP hf9 (fun i hi hm => by omega)
            have hs := hs.frame hf9 (fun i hi hm => .inr (by omega))
            exact eNode h0 hF hν (by omega) h (hs.anti fun _ _ h => .inl h) hcap _ _ _ _ _
          · refine Calls.tell (hX K (fun i => ν i ∨ i = b ∨ i = ba ∨ i = bn ∨ i = w13.heap.size) _ (J11+1) _ D 5 (.inl hν) (fun i hi => by rcases hi with hi | hi | hi | hi | hi; exact Nat.lt_of_lt_of_le (hlt i hi) hF.size; omega; omega; omega; omega) ((h.re h0 hF hν).anti fun i _ h => h.elim .inl fun h => .inr (by omega)) (by omega) (by omega) (by omega)) fun v w14 ⟨z, k3, o3, s3, t3, m3, q3, ql3, qc3, hv, hz, ⟨J14, F14, hJ14, h14⟩, hf14⟩ => ?_
            subst hv
            have hz14 := hf14.size
            have hF := hF.same hf14
            have hO := hO.frame hf14 (fun i _ hm => ⟨.inl (hm ▸ hν), fun e => by simp [Value.ownBlock] at e; omega⟩)
            refine ⟨k3, o3, s3, t3, m3, q3, ql3, qc3, rfl, fun h => hf14.keep _ h fun e => by omega, fun h => hf14.keep _ h fun e => by omega, fun h => hf14.keep _ h fun e => by omega, hf14.mono fun _ _ h => .inl (.inl h), ?_⟩
            refine ⟨?_, ?_⟩
            · intro w15 hw15
              have hf15 : Fr (fun _ => False) w14 w15 := by rw [hw15]; exact alloc_still _ _
              have hzt : w15.heap.size = w14.heap.size + 1 := by rw [hw15]; exact alloc_size _ _
              have hl : NdS (fun i => ν i ∨ i = b ∨ i = ba ∨ i = bn ∨ i = w13.heap.size) w15 [z] (some (⟨w14.heap.size, 0, none⟩ : Addr)) 1 := by
                rw [hw15]
                refine (own_one (base := w14.heap.size) (Nat.le_refl _) hz).nds fun i hi => ?_
                have hzw := hF.size
                rcases hi with hi | hi | hi | hi | hi
                · exact Nat.lt_of_lt_of_le (hlt i hi) hF.size
                · omega
                · omega
                · omega
                · omega
              have hF := hF.same hf15.ext
              have hO := hO.frame hf15 (fun _ _ h => h.elim)
              have h := h14.still hf15
              refine ⟨(hf14.same hf15.ext).mono fun _ _ h => .inl (.inl h), ?_⟩
              obtain ⟨v', w16, hr16, hO16, hf16, hat16⟩ := hO.appendAt T24 22 (hl.anti fun i hi h => h.elim (fun h => h.elim .inl fun h => .inr (by omega)) fun h => .inr (by simp [Value.ownBlock] at h; omega)) (fun h => by cases h) (by omega) (by simp)
              obtain ⟨p16, c16, hv16⟩ := hO16.shape
              subst hv16
              have hown : ∀ i, (Value.slice (some (⟨w13.heap.size, 0, none⟩ : Addr)) 2 2).ownBlock = some i → i = w13.heap.size := fun i e => by simp [Value.ownBlock] at e; omega
              have hown2 : ∀ i, i = w13.heap.size → i < w15.heap.size := fun i e => by omega
              refine ⟨p16, _, c16, w16, hr16, fun h => hf16.keep _ h fun e => by have := hown _ e; omega, fun h => hf16.keep _ h fun e => by have := hown _ e; omega, fun h => hf16.keep _ h fun e => by have := hown _ e; omega, (((hf14.same hf15.ext).mono (N := fun i => i = K.pb ∨ i = w13.heap.size) fun _ _ h => .inl h).trans hf16 (fun _ _ h => h) (fun i _ e => .inr (hown i e))).mono fun _ _ h => .inl h, ?_⟩
              have h := (h.re h0 hF hν).frame hf16 (fun i hi e => .inr (by have := hown i e; omega)) (fun e => by have := hown _ e; omega)
              have hF := hF.lateP hf16 (fun i hi e => by have := hown i e; omega)
              have hcap : ([x, y] ++ [z]).length ≤ c16 := by
                obtain ⟨xs, ho, _⟩ := hO16
                rcases ho.2 with ⟨e, e'⟩ | ⟨g, cap, cur, e, _, _, e', _⟩
                · simp at e'
                · cases e; exact e'
              have hs := hO16.ndsAt (fun i e hi => by
                have hi2 : i = w13.heap.size ∨ i = w15.heap.size := hat16.elim (fun h => .inl (hown i (h ▸ e))) (fun h => .inr (by rw [h] at e; cases e; rfl))
                rcases hi with hi | hi | hi | hi
                · have := hlt i hi
                  omega
                · omega
                · omega
                · omega)
              have hz16 := hf16.size
              intro w9 hf9 hb9 hc9 hd9
              have hz9 := hf9.size
              have h := (h.re h0 hF hν).frame hf9 (fun i hi hm => .inr (by omega)) (fun hm => by omega)
              have hF := hF.lateP hf9 (fun i hi hm => by omega)
              have hs := hs.frame hf9 (fun i hi hm => .inr (by omega))
              exact eNode h0 hF hν (by omega) h (hs.anti fun _ _ h => .inl h) hcap _ _ _ _ _
            · intro w15 hw15
              have hf15 : Fr (fun _ => False) w14 w15 := by rw [hw15]; exact alloc_still _ _
              have hzt : w15.heap.size = w14.heap.size + 1 := by rw [hw15]; exact alloc_size _ _
              have hl : NdS (fun i => ν i ∨ i = b ∨ i = ba ∨ i = bn ∨ i = w13.heap.size) w15 [z] (some (⟨w14.heap.size, 0, none⟩ : Addr)) 1 := by
                rw [hw15]
                refine (own_one (base := w14.heap.size) (Nat.le_refl _) hz).nds fun i hi => ?_
                have hzw := hF.size
                rcases hi with hi | hi | hi | hi | hi
                · exact Nat.lt_of_lt_of_le (hlt i hi) hF.size
                · omega
                · omega
                · omega
                · omega
              have hF := hF.same hf15.ext
              have hO := hO.frame hf15 (fun _ _ h => h.elim)
              have h := h14.still hf15
              refine ⟨(hf14.same hf15.ext).mono fun _ _ h => .inl (.inl h), ?_⟩
              obtain ⟨v', w16, hr16, hO16, hf16, hat16⟩ := hO.appendAt T24 22 (hl.anti fun i hi h => h.elim (fun h => h.elim .inl fun h => .inr (by omega)) fun h => .inr (by simp [Value.ownBlock] at h; omega)) (fun h => by cases h) (by omega) (by simp)
              obtain ⟨p16, c16, hv16⟩ := hO16.shape
              subst hv16
              have hown : ∀ i, (Value.slice (some (⟨w13.heap.size, 0, none⟩ : Addr)) 2 2).ownBlock = some i → i = w13.heap.size := fun i e => by simp [Value.ownBlock] at e; omega
              have hown2 : ∀ i, i = w13.heap.size → i < w15.heap.size := fun i e => by omega
              refine ⟨p16, _, c16, w16, hr16, fun h => hf16.keep _ h fun e => by have := hown _ e; omega, fun h => hf16.keep _ h fun e => by have := hown _ e; omega, fun h => hf16.keep _ h fun e => by have := hown _ e; omega, (((hf14.same hf15.ext).mono (N := fun i => i = K.pb ∨ i = w13.heap.size) fun _ _ h => .inl h).trans hf16 (fun _ _ h => h) (fun i _ e => .inr (hown i e))).mono fun _ _ h => .inl h, ?_⟩
              have h := (h.re h0 hF hν).frame hf16 (fun i hi e => .inr (by have := hown i e; omega)) (fun e => by have := hown _ e; omega)
              have hF := hF.lateP hf16 (fun i hi e => by have := hown i e; omega)
              have hcap : ([x, y] ++ [z]).length ≤ c16 := by
                obtain ⟨xs, ho, _⟩ := hO16
                rcases ho.2 with ⟨e, e'⟩ | ⟨g, cap, cur, e, _, _, e', _⟩
                · simp at e'
                · cases e; exact e'
              have hs := hO16.ndsAt (fun i e hi => by
                have hi2 : i = w13.heap.size ∨ i = w15.heap.size := hat16.elim (fun h => .inl (hown i (h ▸ e))) (fun h => .inr (by rw [h] at e; cases e; rfl))
                rcases hi with hi | hi | hi | hi
                · have := hlt i hi
                  omega
                · omega
                · omega
                · omega)
              have hz16 := hf16.size
              intro w9 hf9 hb9 hc9 hd9
              have hz9 := hf9.size
              have h := (h.re h0 hF hν).frame hf9 (fun i hi hm => .inr (by omega)) (fun hm => by omega)
              have hF := hF.lateP hf9 (fun i hi hm => by omega)
              have hs := hs.frame hf9 (fun i hi hm => .inr (by omega))
              exact eNode h0 hF hν (by omega) h (hs.anti fun _ _ h => .inl h) hcap _ _ _ _ _
        · have h := hr8' hr
          have hs := hO.ndsAt (fun i e hi => by
            have hi2 : i = w13.heap.size := by simp [Value.ownBlock] at e; omega
            rcases hi with hi | hi | hi | hi
            · have := hlt i hi
              omega
            · omega
            · omega
            · omega)
          intro w9 hf9 hb9 hc9 hd9
          have hz9 := hf9.size
          have h := (h.re h0 hF hν).frame hf9 (fun i hi hm => .inr (by omega)) (fun hm => by omega)
          have hF := hF.lateP hf9 (fun i hi hm => by omega)
          have hs := hs.frame hf9 (fun i hi hm => .inr (by omega))
          exact eNode h0 hF hν (by omega) h (hs.anti fun _ _ h => .inl h) (Nat.le_refl _) _ _ _ _ _
    · intro bn hbn hn1 hn2 w13 hf13 hb13 hc13 hd13
      have hz13 := hf13.size
      have hzF := hF.size
      have h := (h.re h0 hF hν).frame hf13 (fun i hi hm => .inr (by omega)) (fun hm => by omega)
      have hF := hF.lateP hf13 (fun i hi hm => by omega)
      refine Calls.tell (hX K (fun i => ν i ∨ i = b ∨ i = ba ∨ i = bn) _ (J+1) _ D 5 (.inl hν) (fun i hi => by rcases hi with hi | hi | hi | hi; exact Nat.lt_of_lt_of_le (hlt i hi) hF.size; omega; omega; omega) ((h.re h0 hF hν).anti fun i _ h => h.elim .inl fun h => .inr (by omega)) (by omega) (by omega) (by omega)) fun v w11 ⟨y, k2, o2, s2, t2, m2, q2, ql2, qc2, hv, hy, ⟨J11, F11, hJ11, h11⟩, hf11⟩ => ?_
      subst hv
      have hz11 := hf11.size
      have hF := hF.same hf11
      have h := h11
      have hzF := hF.size
      have hf1113 := ((Fr.refl (fun i => i = K.pb ∨ i = b ∨ i = ba) w9).trans hf13 (fun _ _ h => h) (fun i hi hm => by omega)).trans hf11 (fun _ _ h => h) (fun i hi hm => .inl hm)
      refine ⟨k2, o2, s2, t2, m2, q2, ql2, qc2, rfl, fun h => hf11.keep _ h fun e => by omega, fun h => hf11.keep _ h fun e => by omega, fun h => hf11.keep _ h fun e => by omega, hf1113.mono fun _ _ h => .inl h, ?_⟩
      intro w12 hw12
      have hf12 : Fr (fun _ => False) w11 w12 := by rw [hw12]; exact alloc_still _ _
      have hzs : w12.heap.size = w11.heap.size + 1 := by rw [hw12]; exact alloc_size _ _
      have hO : OwnS (fun i => ν i ∨ i = b ∨ i = ba ∨ i = bn) w12 w11.heap.size 24 [x, y] (.slice (some (⟨w11.heap.size, 0, none⟩ : Addr)) 2 2) := by
        rw [hw12]
        exact own_two (Nat.le_refl _) ((hxl hF).anti fun i hi h => h.elim .inl fun h => .inr (by omega)) hy
      have hF := hF.same hf12.ext
      have h := h.still hf12
      refine ⟨(hf1113.same hf12.ext).mono fun _ _ h => .inl h, ?_⟩
      intro w9 hf9 hb9 hc9 hd9
      have hz9 := hf9.size
      have h := (h.re h0 hF hν).frame hf9 (fun i hi hm => .inr (by omega)) (fun hm => by omega)
      have hF := hF.lateP hf9 (fun i hi hm => by omega)
      have hO := hO.frame hf9 (fun i hi hm => ⟨.inr (by omega), fun e => by simp [Value.ownBlock] at e; omega⟩)
      refine Calls.tell (take_c _ (.inl hν) h) fun v w8 ⟨r8, hv, hr8, hr8', hf8⟩ => ?_
      subst hv
      have hz8 := hf8.size
      have hF := hF.same hf8
      have hO := hO.frame hf8 (fun i _ hm => ⟨.inl (hm ▸ hν), fun e => by simp [Value.ownBlock] at e; omega⟩)
      refine ⟨r8, rfl, fun h => hf8.keep _ h fun e => by omega, fun h => hf8.keep _ h fun e => by omega, fun h => hf8.keep _ h fun e => by omega, fun hr => ?_, fun hr => ?_⟩
      · obtain ⟨_, hJn8, h⟩ := hr8 hr
        intro w9 hf9 hb9 hc9 hd9
        have hz9 := hf9.size
        have h := (h.re h0 hF hν).frame hf9 (fun i hi hm => .inr (by omega)) (fun hm => by omega)
        have hF := hF.lateP hf9 (fun i hi hm => by omega)
        have hO := hO.frame hf9 (fun i hi hm => ⟨.inr (by omega), fun e => by simp [Value.ownBlock] at e; omega⟩)
        refine ⟨fun i => i = K.pb ∨ i = w11.heap.size, ?_, ?_⟩
        · refine Calls.tell (hX K (fun i => ν i ∨ i = b ∨ i = ba ∨ i = bn ∨ i = w11.heap.size) _ (J11+1) _ D 5 (.inl hν) (fun i hi => by rcases hi with hi | hi | hi | hi | hi; exact Nat.lt_of_lt_of_le (hlt i hi) hF.size; omega; omega; omega; omega) ((h.re h0 hF hν).anti fun i _ h => h.elim .inl fun h => .inr (by omega)) (by omega) (by omega) (by omega)) fun v w14 ⟨z, k3, o3, s3, t3, m3, q3, ql3, qc3, hv, hz, ⟨J14, F14, hJ14, h14⟩, hf14⟩ => ?_
          subst hv
          have hz14 := hf14.size
          have hF := hF.same hf14
          have hO := hO.frame hf14 (fun i _ hm => ⟨.inl (hm ▸ hν), fun e => by simp [Value.ownBlock] at e; omega⟩)
          refine ⟨k3, o3, s3, t3, m3, q3, ql3, qc3, rfl, fun h => hf14.keep _ h fun e => by omega, fun h => hf14.keep _ h fun e => by omega, fun h => hf14.keep _ h fun e => by omega, hf14.mono fun _ _ h => .inl (.inl h), ?_⟩
          intro w15 hw15
          have hf15 : Fr (fun _ => False) w14 w15 := by rw [hw15]; exact alloc_still _ _
          have hzt : w15.heap.size = w14.heap.size + 1 := by rw [hw15]; exact alloc_size _ _
          have hl : NdS (fun i => ν i ∨ i = b ∨ i = ba ∨ i = bn ∨ i = w11.heap.size) w15 [z] (some (⟨w14.heap.size, 0, none⟩ : Addr)) 1 := by
            rw [hw15]
            refine (own_one (base := w14.heap.size) (Nat.le_refl _) hz).nds fun i hi => ?_
            have hzw := hF.size
            rcases hi with hi | hi | hi | hi | hi
            · exact Nat.lt_of_lt_of_le (hlt i hi) hF.size
            · omega
            · omega
            · omega
            · omega
          have hF := hF.same hf15.ext
          have hO := hO.frame hf15 (fun _ _ h => h.elim)
          have h := h14.still hf15
          refine ⟨(hf14.same hf15.ext).mono fun _ _ h => .inl (.inl h), ?_⟩
          obtain ⟨v', w16, hr16, hO16, hf16, hat16⟩ := hO.appendAt T24 22 (hl.anti fun i hi h => h.elim (fun h => h.elim .inl fun h => .inr (by omega)) fun h => .inr (by simp [Value.ownBlock] at h; omega)) (fun h => by cases h) (by omega) (by simp)
          obtain ⟨p16, c16, hv16⟩ := hO16.shape
          subst hv16
          have hown : ∀ i, (Value.slice (some (⟨w11.heap.size, 0, none⟩ : Addr)) 2 2).ownBlock = some i → i = w11.heap.size := fun i e => by simp [Value.ownBlock] at e; omega
          have hown2 : ∀ i, i = w11.heap.size → i < w15.heap.size := fun i e => by omega
          refine ⟨p16, _, c16, w16, hr16, fun h => hf16.keep _ h fun e => by have := hown _ e; omega, fun h => hf16.keep _ h fun e => by have := hown _ e; omega, fun h => hf16.keep _ h fun e => by have := hown _ e; omega, (((hf14.same hf15.ext).mono (N := fun i => i = K.pb ∨ i = w11.heap.size) fun _ _ h => .inl h).trans hf16 (fun _ _ h => h) (fun i _ e => .inr (hown i e))).mono fun _ _ h => .inl h, ?_⟩
          have h := (h.re h0 hF hν).frame hf16 (fun i hi e => .inr (by have := hown i e; omega)) (fun e => by have := hown _ e; omega)
          have hF := hF.lateP hf16 (fun i hi e => by have := hown i e; omega)
          have hcap : ([x, y] ++ [z]).length ≤ c16 := by
            obtain ⟨xs, ho, _⟩ := hO16
            rcases ho.2 with ⟨e, e'⟩ | ⟨g, cap, cur, e, _, _, e', _⟩
            · simp at e'
            · cases e; exact e'
          have hs := hO16.ndsAt (fun i e hi => by
            have hi2 : i = w11.heap.size ∨ i = w15.heap.size := hat16.elim (fun h => .inl (hown i (h ▸ e))) (fun h => .inr (by rw [h] at e; cases e; rfl))
            rcases hi with hi | hi | hi | hi
            · have := hlt i hi
              omega
            · omega
            · omega
            · omega)
          have hz16 := hf16.size
          intro w9 hf9 hb9 hc9 hd9
          have hz9 := hf9.size
          have h := (h.re h0 hF hν).frame hf9 (fun i hi hm => .inr (by omega)) (fun hm => by omega)
          have hF := hF.lateP hf9 (fun i hi hm => by omega)
          have hs := hs.frame hf9 (fun i hi hm => .inr (by omega))
          exact eNode h0 hF hν (by omega) h (hs.anti fun _ _ h => .inl h) hcap _ _ _ _ _
        · refine Calls.tell (hX K (fun i => ν i ∨ i = b ∨ i = ba ∨ i = bn ∨ i = w11.heap.size) _ (J11+1) _ D 5 (.inl hν) (fun i hi => by rcases hi with hi | hi | hi | hi | hi; exact Nat.lt_of_lt_of_le (hlt i hi) hF.size; omega; omega; omega; omega) ((h.re h0 hF hν).anti fun i _ h => h.elim .inl fun h => .inr (by omega)) (by omega) (by omega) (by omega)) fun v w14 ⟨z, k3, o3, s3, t3, m3, q3, ql3, qc3, hv, hz, ⟨J14, F14, hJ14, h14⟩, hf14⟩ => ?_
          subst hv
          have hz14 := hf14.size
          have hF := hF.same hf14
          have hO := hO.frame hf14 (fun i _ hm => ⟨.inl (hm ▸ hν), fun e => by simp [Value.ownBlock] at e; omega⟩)
          refine ⟨k3, o3, s3, t3, m3, q3, ql3, qc3, rfl, fun h => hf14.keep _ h fun e => by omega, fun h => hf14.keep _ h fun e => by omega, fun h => hf14.keep _ h fun e => by omega, hf14.mono fun _ _ h => .inl (.inl h), ?_⟩
          refine ⟨?_, ?_⟩
          · intro w15 hw15
            have hf15 : Fr (fun _ => False) w14 w15 := by rw [hw15]; exact alloc_still _ _
            have hzt : w15.heap.size = w14.heap.size + 1 := by rw [hw15]; exact alloc_size _ _
            have hl : NdS (fun i => ν i ∨ i = b ∨ i = ba ∨ i = bn ∨ i = w11.heap.size) w15 [z] (some (⟨w14.heap.size, 0, none⟩ : Addr)) 1 := by
              rw [hw15]
              refine (own_one (base := w14.heap.size) (Nat.le_refl _) hz).nds fun i hi => ?_
              have hzw := hF.size
              rcases hi with hi | hi | hi | hi | hi
              · exact Nat.lt_of_lt_of_le (hlt i hi) hF.size
              · omega
              · omega
              · omega
              · omega
            have hF := hF.same hf15.ext
            have hO := hO.frame hf15 (fun _ _ h => h.elim)
            have h := h14.still hf15
            refine ⟨(hf14.same hf15.ext).mono fun _ _ h => .inl (.inl h), ?_⟩
            obtain ⟨v', w16, hr16, hO16, hf16, hat16⟩ := hO.appendAt T24 22 (hl.anti fun i hi h => h.elim (fun h => h.elim .inl fun h => .inr (by omega)) fun h => .inr (by simp [Value.ownBlock] at h; omega)) (fun h => by cases h) (by omega) (by simp)
            obtain ⟨p16, c16, hv16⟩ := hO16.shape
            subst hv16
            have hown : ∀ i, (Value.slice (some (⟨w11.heap.size, 0, none⟩ : Addr)) 2 2).ownBlock = some i → i = w11.heap.size := fun i e => by simp [Value.ownBlock] at e; omega
            have hown2 : ∀ i, i = w11.heap.size → i < w15.heap.size := fun i e => by omega
            refine ⟨p16, _, c16, w16, hr16, fun h => hf16.keep _ h fun e => by have := hown _ e; omega, fun h => hf16.keep _ h fun e => by have := hown _ e; omega, fun h => hf16.keep _ h fun e => by have := hown _ e; omega, (((hf14.same hf15.ext).mono (N := fun i => i = K.pb ∨ i = w11.heap.size) fun _ _ h => .inl h).trans hf16 (fun _ _ h => h) (fun i _ e => .inr (hown i e))).mono fun _ _ h => .inl h, ?_⟩
            have h := (h.re h0 hF hν).frame hf16 (fun i hi e => .inr (by have := hown i e; omega)) (fun e => by have := hown _ e; omega)
            have hF := hF.lateP hf16 (fun i hi e => by have := hown i e; omega)
            have hcap : ([x, y] ++ [z]).length ≤ c16 := by
              obtain ⟨xs, ho, _⟩ := hO16
              rcases ho.2 with ⟨e, e'⟩ | ⟨g, cap, cur, e, _, _, e', _⟩
              · simp at e'
              · cases e; exact e'
            have hs := hO16.ndsAt (fun i e hi => by
              have hi2 : i = w11.heap.size ∨ i = w15.heap.size := hat16.elim (fun h => .inl (hown i (h ▸ e))) (fun h => .inr (by rw [h] at e; cases e; rfl))
              rcases hi with hi | hi | hi | hi
              · have := hlt i hi
                omega
              · omega
              · omega
              · omega)
            have hz16 := hf16.size
            intro w9 hf9 hb9 hc9 hd9
            have hz9 := hf9.size
            have h := (h.re h0 hF hν).frame hf9 (fun i hi hm => .inr (by omega)) (fun hm => by omega)
            have hF := hF.lateP hf9 (fun i hi hm => by omega)
            have hs := hs.frame hf9 (fun i hi hm => .inr (by omega))
            exact eNode h0 hF hν (by omega) h (hs.anti fun _ _ h => .inl h) hcap _ _ _ _ _
          · intro w15 hw15
            have hf15 : Fr (fun _ => False) w14 w15 := by rw [hw15]; exact alloc_still _ _
            have hzt : w15.heap.size = w14.heap.size + 1 := by rw [hw15]; exact alloc_size _ _
            have hl : NdS (fun i => ν i ∨ i = b ∨ i = ba ∨ i = bn ∨ i = w11.heap.size) w15 [z] (some (⟨w14.heap.size, 0, none⟩ : Addr)) 1 := by
              rw [hw15]
              refine (own_one (base := w14.heap.size) (Nat.le_refl _) hz).nds fun i hi => ?_
              have hzw := hF.size
              rcases hi with hi | hi | hi | hi | hi
              · exact Nat.lt_of_lt_of_le (hlt i hi) hF.size
              · omega
              · omega
              · omega
              · omega
            have hF := hF.same hf15.ext
            have hO := hO.frame hf15 (fun _ _ h => h.elim)
            have h := h14.still hf15
            refine ⟨(hf14.same hf15.ext).mono fun _ _ h => .inl (.inl h), ?_⟩
            obtain ⟨v', w16, hr16, hO16, hf16, hat16⟩ := hO.appendAt T24 22 (hl.anti fun i hi h => h.elim (fun h => h.elim .inl fun h => .inr (by omega)) fun h => .inr (by simp [Value.ownBlock] at h; omega)) (fun h => by cases h) (by omega) (by simp)
            obtain ⟨p16, c16, hv16⟩ := hO16.shape
            subst hv16
            have hown : ∀ i, (Value.slice (some (⟨w11.heap.size, 0, none⟩ : Addr)) 2 2).ownBlock = some i → i = w11.heap.size := fun i e => by simp [Value.ownBlock] at e; omega
            have hown2 : ∀ i, i = w11.heap.size → i < w15.heap.size := fun i e => by omega
            refine ⟨p16, _, c16, w16, hr16, fun h => hf16.keep _ h fun e => by have := hown _ e; omega, fun h => hf16.keep _ h fun e => by have := hown _ e; omega, fun h => hf16.keep _ h fun e => by have := hown _ e; omega, (((hf14.same hf15.ext).mono (N := fun i => i = K.pb ∨ i = w11.heap.size) fun _ _ h => .inl h).trans hf16 (fun _ _ h => h) (fun i _ e => .inr (hown i e))).mono fun _ _ h => .inl h, ?_⟩
            have h := (h.re h0 hF hν).frame hf16 (fun i hi e => .inr (by have := hown i e; omega)) (fun e => by have := hown _ e; omega)
            have hF := hF.lateP hf16 (fun i hi e => by have := hown i e; omega)
            have hcap : ([x, y] ++ [z]).length ≤ c16 := by
              obtain ⟨xs, ho, _⟩ := hO16
              rcases ho.2 with ⟨e, e'⟩ | ⟨g, cap, cur, e, _, _, e', _⟩
              · simp at e'
              · cases e; exact e'
            have hs := hO16.ndsAt (fun i e hi => by
              have hi2 : i = w11.heap.size ∨ i = w15.heap.size := hat16.elim (fun h => .inl (hown i (h ▸ e))) (fun h => .inr (by rw [h] at e; cases e; rfl))
              rcases hi with hi | hi | hi | hi
              · have := hlt i hi
                omega
              · omega
              · omega
              · omega)
            have hz16 := hf16.size
            intro w9 hf9 hb9 hc9 hd9
            have hz9 := hf9.size
            have h := (h.re h0 hF hν).frame hf9 (fun i hi hm => .inr (by omega)) (fun hm => by omega)
            have hF := hF.lateP hf9 (fun i hi hm => by omega)
            have hs := hs.frame hf9 (fun i hi hm => .inr (by omega))
            exact eNode h0 hF hν (by omega) h (hs.anti fun _ _ h => .inl h) hcap _ _ _ _ _
      · have h := hr8' hr
        have hs := hO.ndsAt (fun i e hi => by
          have hi2 : i = w11.heap.size := by simp [Value.ownBlock] at e; omega
          rcases hi with hi | hi | hi | hi
          · have := hlt i hi
            omega
          · omega
          · omega
          · omega)
        intro w9 hf9 hb9 hc9 hd9
        have hz9 := hf9.size
        have h := (h.re h0 hF hν).frame hf9 (fun i hi hm => .inr (by omega)) (fun hm => by omega)
        have hF := hF.lateP hf9 (fun i hi hm => by omega)
        have hs := hs.frame hf9 (fun i hi hm => .inr (by omega))
        exact eNode h0 hF hν (by omega) h (hs.anti fun _ _ h => .inl h) (Nat.le_refl _) _ _ _ _ _
  have h := hr8' hr
  refine Calls.tell (take_c _ (.inl hν) h) fun v w10 ⟨r10, hv, hr10, hr10', hf10⟩ => ?_
  subst hv
  have hz10 := hf10.size
  have hF := hF.same hf10
  refine ⟨r10, rfl, fun h => hf10.keep _ h fun e => by omega, fun h => hf10.keep _ h fun e => by omega, fun hr => ?_, fun hr => ?_⟩
  · -- BETWEEN
    obtain ⟨_, hJn, h⟩ := hr10 hr
    refine Calls.tell (hX K (fun i => ν i ∨ i = b ∨ i = ba) w10 (J+1) _ D 5 (.inl hν) (fun i hi => by rcases hi with hi | hi | hi; exact Nat.lt_of_lt_of_le (hlt i hi) hF.size; omega; omega) ((h.re h0 hF hν).anti fun i _ h => h.elim .inl fun h => .inr (by omega)) (by omega) (by omega) (by omega)) fun v w11 ⟨y, k2, o2, s2, t2, m2, q2, ql2, qc2, hv, hy, ⟨J11, F11, hJ11, h11⟩, hf11⟩ => ?_
    subst hv
    have hz11 := hf11.size
    have hF := hF.same hf11
    have h := h11
    refine ⟨k2, o2, s2, t2, m2, q2, ql2, qc2, rfl, fun h => hf11.keep _ h fun e => by omega, fun h => hf11.keep _ h fun e => by omega, ?_⟩
    intro bn hbn hn1 hn2
    have hzF := hF.size
    have hs := hy.anti (ν := fun i => ν i ∨ i = b ∨ i = ba ∨ w11.heap.size ≤ i) fun i hi h => h.elim .inl fun h => .inr (by omega)
    intro w9 hf9 hb9 hc9 hd9
    have h := (h.re h0 hF hν).frame hf9 (fun i hi hm => .inr (by omega)) (fun hm => by omega)
    have hF := hF.lateP hf9 (fun i hi hm => by omega)
    have hs := hs.frame hf9 (fun i hi hm => .inr (by omega))
    refine Calls.tell (want_c _ (.inl hν) h) fun v w7 ⟨hv, ⟨J7, F7, hJ7, h7⟩, hf7⟩ => ?_
    subst hv
    have hz7 := hf7.size
    have hF := hF.same hf7
    have h := h7
    have hs := hs.frame hf7 (fun i _ hm => .inl (hm ▸ hν))
    refine ⟨rfl, fun h => hf7.keep _ h fun e => by omega, fun h => hf7.keep _ h fun e => by omega, fun h => hf7.keep _ h fun e => by omega, ?_⟩
    have hj7 := h7.i1
    intro w9 hf9 hb9 hc9 hd9
    have h := (h.re h0 hF hν).frame hf9 (fun i hi hm => .inr (by omega)) (fun hm => by omega)
    have hF := hF.lateP hf9 (fun i hi hm => by omega)
    have hs := hs.frame hf9 (fun i hi hm => .inr (by omega))
    refine ⟨fun i => i = K.pb, ?_⟩
    refine Calls.tell (hX K (fun i => ν i ∨ i = b ∨ i = ba ∨ i = bn) w9 J7 _ D 5 (.inl hν) (fun i hi => by rcases hi with hi | hi | hi | hi; exact Nat.lt_of_lt_of_le (hlt i hi) hF.size; omega; omega; omega) ((h.re h0 hF hν).anti fun i _ h => h.elim .inl fun h => .inr (by omega)) (by omega) (by omega) (by omega)) fun v w12 ⟨z, k3, o3, s3, t3, m3, q3, ql3, qc3, hv, hz, ⟨J12, F12, hJ12, h12⟩, hf12⟩ => ?_
    subst hv
    have hz12 := hf12.size
    have hF := hF.same hf12
    have hs := hs.frame hf12 (fun i _ hm => .inl (hm ▸ hν))
    refine ⟨k3, o3, s3, t3, m3, q3, ql3, qc3, rfl, fun h => hf12.keep _ h fun e => by omega, fun h => hf12.keep _ h fun e => by omega, fun h => hf12.keep _ h fun e => by omega, hf12.mono fun _ _ h => .inl h, ?_⟩
    intro w13 hw13
    have hf13 : Fr (fun _ => False) w12 w13 := by rw [hw13]; exact alloc_still _ _
    have hs : NdS (fun i => ν i ∨ i = b ∨ i = ba ∨ i = bn) w13 [x, y, z] (some (⟨w12.heap.size, 0, none⟩ : Addr)) 3 := by
      rw [hw13]
      refine (own_three (base := w12.heap.size) (Nat.le_refl _) ((hxl hF).anti fun i hi h => h.elim .inl fun h => .inr (by omega)) (hs.anti fun i hi h => h.elim .inl fun h => .inr (by omega)) hz).nds fun i hi => ?_
      rcases hi with hi | hi | hi | hi
      · exact Nat.lt_of_lt_of_le (hlt i hi) hF.size
      · omega
      · omega
      · omega
    have hF := hF.same hf13.ext
    have h := h12.still hf13
    refine ⟨(hf12.same hf13.ext).mono fun _ _ h => .inl h, ?_⟩
    intro w9 hf9 hb9 hc9 hd9
    have h := (h.re h0 hF hν).frame hf9 (fun i hi hm => .inr (by omega)) (fun hm => by omega)
    have hF := hF.lateP hf9 (fun i hi hm => by omega)
    have hs := hs.frame hf9 (fun i hi hm => .inr (by omega))
    exact eNode h0 hF hν (by omega) h (hs.anti fun _ _ h => .inl h) (Nat.le_refl _) _ _ _ _ _
  have h := hr10' hr
  refine Calls.tell (is_c _ h) fun v w11 ⟨r11, hv, hr11, hf11⟩ => ?_
  subst hv
  have hz11 := hf11.size
  have hF := hF.same hf11.ext
  have h := h.still hf11
  refine ⟨r11, rfl, fun h => hf11.keep _ h fun e => e, fun h => hf11.keep _ h fun e => e, fun hr => ?_, fun hr => ⟨fun _ => ?_, fun _ => ?_⟩⟩
  · -- IN
    have hJn := hr11 hr
    refine ⟨J, h.cI, by rw [add_block]; exact hbp, by rw [add_block]; exact hbap, by rw [h.cI]; rfl, h.nofroz 1, ?_⟩
    rw [wrap_i64 (x := J + 1) (by omega) (by omega)]
    have hF := hF.same (PS.set_fr (K := K) 1 (.int .i64 (J + 1)))
    have h := h.setI (.inl hν) (J := J + 1) (by omega) (by omega)
    have hz12 : w11.heap.size = (w11.setCell (K.p.add 1) (.int .i64 (J + 1))).heap.size := (setCell_size _ _ _).symm
    generalize w11.setCell (K.p.add 1) (.int .i64 (J + 1)) = w12 at *
    intro w13 hw13
    have hf13 : Fr (fun _ => False) w12 w13 := by rw [hw13]; exact alloc_still _ _
    have hzs : w13.heap.size = w12.heap.size + 1 := by rw [hw13]; exact alloc_size _ _
    have hzq := hF.size
    have hO : OwnS (fun i => ν i ∨ i = b ∨ i = ba ∨ w12.heap.size < i) w13 w12.heap.size 24 [x] (.slice (some (⟨w12.heap.size, 0, none⟩ : Addr)) 1 1) := by
      rw [hw13]
      exact own_one (Nat.le_refl _) ((hxl hF).anti fun i hi h => h.elim .inl fun h => .inr (by omega))
    have hF := hF.same hf13.ext
    have h := h.still hf13
    intro bn hbn hn1 hn2
    have hzF := hF.size
    have hzw : w.heap.size ≤ w12.heap.size := hzq
    intro w9 hf9 hb9 hc9 hd9
    have h := (h.re h0 hF hν).frame hf9 (fun i hi hm => .inr (by omega)) (fun hm => by omega)
    have hF := hF.lateP hf9 (fun i hi hm => by omega)
    have hO := (hO.frame hf9 (fun i hi hm => ⟨.inr (by omega), fun e => by simp [Value.ownBlock] at e; omega⟩)).anti (ν := fun i => ν i ∨ i = b ∨ i = ba ∨ i = bn) fun i hi h => .inl (h.elim .inl fun h => .inr (by omega))
    refine ⟨fun i => i = K.pb ∨ i = w12.heap.size, ?_, ?_⟩
    · refine Calls.tell (list_of hX (ν := fun i => ν i ∨ i = b ∨ i = ba ∨ i = bn ∨ i = w12.heap.size) (.inl hν) (fun i hi => by rcases hi with hi | hi | hi | hi | hi; exact Nat.lt_of_lt_of_le (hlt i hi) hF.size; omega; omega; omega; omega) ((h.re h0 hF hν).anti fun i _ h => h.elim .inl fun h => .inr (by omega)) (by omega)) fun v w14 ⟨l, p, len, cap, hv, hl, hlc, hpc, hll, ⟨J14, F14, hJ14, h14⟩, hf14⟩ => ?_
      subst hv
      have hz14 := hf14.size
      have hF := hF.same hf14
      have hO := hO.frame hf14 (fun i _ hm => ⟨.inl (hm ▸ hν), fun e => by simp [Value.ownBlock] at e; omega⟩)
      refine ⟨p, len, cap, rfl, fun h => hf14.keep _ h fun e => by omega, fun h => hf14.keep _ h fun e => by omega, fun h => hf14.keep _ h fun e => by omega, hf14.mono fun _ _ h => .inl (.inl h), ?_⟩
      obtain ⟨v', w15, hr15, hO15, hf15, hat15⟩ := hO.appendAt T24 22 (hl.anti fun i hi h => h.elim (fun h => h.elim .inl fun h => .inr (by omega)) fun h => .inr (by simp [Value.ownBlock] at h; omega)) hpc (by omega) (by simp; omega)
      obtain ⟨p15, c15, hv15⟩ := hO15.shape
      subst hv15
      have hown : ∀ i, (Value.slice (some (⟨w12.heap.size, 0, none⟩ : Addr)) 1 1).ownBlock = some i → i = w12.heap.size := fun i e => by simp [Value.ownBlock] at e; omega
      refine ⟨p15, _, c15, w15, hr15, fun h => hf15.keep _ h fun e => by have := hown _ e; omega, fun h => hf15.keep _ h fun e => by have := hown _ e; omega, fun h => hf15.keep _ h fun e => by have := hown _ e; omega, (hf14.mono (N := fun i => i = K.pb ∨ i = w12.heap.size) fun _ _ h => .inl h).trans hf15 (fun _ _ h => .inl h) (fun i _ e => .inl (.inr (hown i e))), ?_⟩
      have h := (h14.re h0 hF hν).frame hf15 (fun i hi e => .inr (by have := hown i e; omega)) (fun e => by have := hown _ e; omega)
      have hF := hF.lateP hf15 (fun i hi e => by have := hown i e; omega)
      have hcap : ([x] ++ l).length ≤ c15 := by obtain ⟨xs, ho, _⟩ := hO15; rcases ho.2 with ⟨e, e'⟩ | ⟨g, cap, cur, e, _, _, e', _⟩; simp at e'; cases e; exact e'
      have hs := hO15.ndsAt (fun i e hi => by have hi2 : i = w12.heap.size ∨ i = w14.heap.size := hat15.elim (fun h => .inl (hown i (h ▸ e))) (fun h => .inr (by rw [h] at e; cases e; rfl)); rcases hi with hi | hi | hi | hi; (have := hlt i hi; omega); omega; omega; omega)
      intro w9 hf9 hb9 hc9 hd9
      have h := (h.re h0 hF hν).frame hf9 (fun i hi hm => .inr (by omega)) (fun hm => by omega)
      have hF := hF.lateP hf9 (fun i hi hm => by omega)
      have hs := hs.frame hf9 (fun i hi hm => .inr (by omega))
      exact eNode h0 hF hν (by omega) h (hs.anti fun _ _ h => .inl h) hcap _ _ _ _ _
    · refine Calls.tell (list_of hX (ν := fun i => ν i ∨ i = b ∨ i = ba ∨ i = bn ∨ i = w12.heap.size) (.inl hν) (fun i hi => by rcases hi with hi | hi | hi | hi | hi; exact Nat.lt_of_lt_of_le (hlt i hi) hF.size; omega; omega; omega; omega) ((h.re h0 hF hν).anti fun i _ h => h.elim .inl fun h => .inr (by omega)) (by omega)) fun v w14 ⟨l, p, len, cap, hv, hl, hlc, hpc, hll, ⟨J14, F14, hJ14, h14⟩, hf14⟩ => ?_
      subst hv
      have hz14 := hf14.size
      have hF := hF.same hf14
      have hO := hO.frame hf14 (fun i _ hm => ⟨.inl (hm ▸ hν), fun e => by simp [Value.ownBlock] at e; omega⟩)
      refine ⟨p, len, cap, rfl, fun h => hf14.keep _ h fun e => by omega, fun h => hf14.keep _ h fun e => by omega, fun h => hf14.keep _ h fun e => by omega, hf14.mono fun _ _ h => .inl (.inl h), ?_⟩
      obtain ⟨v', w15, hr15, hO15, hf15, hat15⟩ := hO.appendAt T24 22 (hl.anti fun i hi h => h.elim (fun h => h.elim .inl fun h => .inr (by omega)) fun h => .inr (by simp [Value.ownBlock] at h; omega)) hpc (by omega) (by simp; omega)
      obtain ⟨p15, c15, hv15⟩ := hO15.shape
      subst hv15
      have hown : ∀ i, (Value.slice (some (⟨w12.heap.size, 0, none⟩ : Addr)) 1 1).ownBlock = some i → i = w12.heap.size := fun i e => by simp [Value.ownBlock] at e; omega
      refine ⟨p15, _, c15, w15, hr15, fun h => hf15.keep _ h fun e => by have := hown _ e; omega, fun h => hf15.keep _ h fun e => by have := hown _ e; omega, fun h => hf15.keep _ h fun e => by have := hown _ e; omega, (hf14.mono (N := fun i => i = K.pb ∨ i = w12.heap.size) fun _ _ h => .inl h).trans hf15 (fun _ _ h => .inl h) (fun i _ e => .inl (.inr (hown i e))), ?_⟩
      have h := (h14.re h0 hF hν).frame hf15 (fun i hi e => .inr (by have := hown i e; omega)) (fun e => by have := hown _ e; omega)
      have hF := hF.lateP hf15 (fun i hi e => by have := hown i e; omega)
      have hcap : ([x] ++ l).length ≤ c15 := by obtain ⟨xs, ho, _⟩ := hO15; rcases ho.2 with ⟨e, e'⟩ | ⟨g, cap, cur, e, _, _, e', _⟩; simp at e'; cases e; exact e'
      have hs := hO15.ndsAt (fun i e hi => by have hi2 : i = w12.heap.size ∨ i = w14.heap.size := hat15.elim (fun h => .inl (hown i (h ▸ e))) (fun h => .inr (by rw [h] at e; cases e; rfl)); rcases hi with hi | hi | hi | hi; (have := hlt i hi; omega); omega; omega; omega)
      intro w9 hf9 hb9 hc9 hd9
      have h := (h.re h0 hF hν).frame hf9 (fun i hi hm => .inr (by omega)) (fun hm => by omega)
      have hF := hF.lateP hf9 (fun i hi hm => by omega)
      have hs := hs.frame hf9 (fun i hi hm => .inr (by omega))
      exact eNode h0 hF hν (by omega) h (hs.anti fun _ _ h => .inl h) hcap _ _ _ _ _
  · refine Calls.tell (fail_c 10 (by omega) (.inl hν) h) fun v w12 ⟨hv, ⟨F12, _, h12⟩, hf12⟩ => ?_
    subst hv
    have hF := hF.same hf12
    have h := h12
    refine ⟨rfl, fun h => hf12.keep _ h fun e => by omega, fun h => hf12.keep _ h fun e => by omega, ?_⟩
    intro w9 hf9 hb9 hc9
    have h := (h.re h0 hF hν).frame hf9 (fun i hi hm => .inr (by omega)) (fun hm => by omega)
    have hF := hF.lateP hf9 (fun i hi hm => by omega)
    exact ⟨x, k, o, s, t, m, q, ql, qc, rfl, (hxl hF).anti fun _ _ h => .inl h, ⟨_, _, by omega, h.anti fun _ _ h => .inl h⟩, hF⟩
  · intro w9 hf9 hb9 hc9
    have h := (h.re h0 hF hν).frame hf9 (fun i hi hm => .inr (by omega)) (fun hm => by omega)
    have hF := hF.lateP hf9 (fun i hi hm => by omega)
    exact ⟨x, k, o, s, t, m, q, ql, qc, rfl, (hxl hF).anti fun _ _ h => .inl h, ⟨_, _, by omega, h.anti fun _ _ h => .inl h⟩, hF⟩
end Go.Proofs.Ytjlkgedcpmoehaa
