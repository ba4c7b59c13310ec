/-
  The reckoned conditions are sound: 'fn_calls': where vcFn holds of a function, its arguments and a world, the call returns as it says. For every program, no condition but the four facts that it asks of the program's tables.
-/
import Derived.Test.YtjlkgedcpmoehaaVc
import Derived.Laws.Sem
set_option linter.unusedVariables false
set_option linter.unusedSimpArgs false
namespace Go.Vc

theorem Fr.refl (M : Nat → Prop) (w : World) : Fr M w w := ⟨rfl, rfl, rfl, Nat.le_refl _, fun _ _ _ => rfl⟩

theorem Fr.trans {M N L : Nat → Prop} {a b c : World} (h : Fr M a b) (k : Fr N b c) (hM : ∀ i, i < a.heap.size → M i → L i) (hN : ∀ i, i < a.heap.size → N i → L i) : Fr L a c :=
  ⟨k.os.trans h.os, k.tape.trans h.tape, k.output.trans h.output, Nat.le_trans h.size k.size, fun i hi hn =>
    (k.keep i (Nat.lt_of_lt_of_le hi h.size) (fun x => hn (hN i hi x))).trans (h.keep i hi (fun x => hn (hM i hi x)))⟩

theorem Fr.mono {M N : Nat → Prop} {a b : World} (h : Fr M a b) (k : ∀ i, i < a.heap.size → M i → N i) : Fr N a b :=
  ⟨h.os, h.tape, h.output, h.size, fun i hi hn => h.keep i hi fun x => hn (k i hi x)⟩

/-- What the table says of the types is so. -/
def TabOk (P : Program) (tab : Tab) : Prop :=
  ∀ t i, tab t = some i → P.underlying t = some i.desc ∧ ∃ f, P.info? t = some f ∧ f.size = i.size ∧ (∃ z, f.zero = some z ∧ z.cells = i.zero.toArray) ∧ i.zero.length = i.size

def Callee (P : Program) (f : FuncId) : Prop := ∀ args w, (callFunc f args).run P w = .ok (.enter f args) w

def xt (x : Option Bool) : Prop := match x with | none => True | some b => b = true

def RelSV (bs : List Bx) : SV → Value → Prop
  | .v x, u => u = x
  | .bx k off, u => ∃ x, findBx k bs = some x ∧ u = .pointer (some ⟨x.b, off, none⟩)
  | .junk, _ => True

def RelE (bs : List Bx) (e : Ent) (u : Value) : Prop := (xt e.x → RelSV bs e.s u) ∧ (e.x = some false → u = undef)

theorem RelE.v {bs : List Bx} {v : Value} : RelE bs ⟨none, .v v⟩ v := ⟨fun _ => rfl, fun h => by cases h⟩
theorem RelE.junk {bs : List Bx} {v : Value} : RelE bs ⟨none, .junk⟩ v := ⟨fun _ => trivial, fun h => by cases h⟩
theorem RelE.skip {bs : List Bx} {s : SV} : RelE bs ⟨some false, s⟩ undef := ⟨fun h => (by cases h), fun _ => rfl⟩
theorem RelE.of {bs : List Bx} {s : SV} {v : Value} (h : RelSV bs s v) : RelE bs ⟨none, s⟩ v := ⟨fun _ => h, fun h => by cases h⟩

def BoxOk (env : Env) (bs : List Bx) (w : World) : Prop :=
  ∀ x ∈ bs, ∃ cells T, w.heap[x.b]? = some (.cells cells T (0, 0)) ∧ cells.size = x.n ∧ ∀ off, off < x.n → RelE bs (find (x.id + 1, off) env) (cells.getD off undef)

structure Sim (n : Nat) (env : Env) (bs : List Bx) (a : Act) (w : World) : Prop where
  defers : a.defers = []
  size : a.tmps.size = n
  tmp : ∀ t, RelE bs (find (0, t) env) (a.tmps.getD t undef)
  box : BoxOk env bs w
  blocks : (bs.map (·.b)).Nodup
  ids : (bs.map (·.id)).Nodup

section
variable {bs : List Bx} {env : Env} {a : Act}

/-- The temporaries alone. -/
def TmpOk (env : Env) (bs : List Bx) (a : Act) : Prop := ∀ t, RelE bs (find (0, t) env) (a.tmps.getD t undef)

theorem need_spec {x : Option Bool} {e : Ent} {K : SV → Prop} {u : Value} (h : need x e K) (hr : RelE bs e u) : ∃ s, K s ∧ (xt x → RelSV bs s u) := by
  unfold need at h
  obtain ⟨y, s⟩ := e
  cases y with
  | none => exact ⟨s, h, fun _ => hr.1 trivial⟩
  | some y =>
    refine ⟨s, h.2, fun hx => hr.1 ?_⟩
    have h1 := h.1
    cases x with
    | none => exact h1
    | some x => exact h1 hx

theorem rd_spec {x : Option Bool} {y : Operand} {K : SV → Prop} (h : rd env x y K) (ht : TmpOk env bs a) : ∃ s, K s ∧ (xt x → RelSV bs s (a.eval y)) := by
  cases y with
  | tmp t => exact need_spec h (ht t)
  | const v => exact ⟨_, h, fun _ => rfl⟩
  | global g => exact ⟨_, h, fun _ => rfl⟩
  | func f => exact ⟨_, h, fun _ => rfl⟩

theorem rdV_spec {x : Option Bool} {y : Operand} {K : Value → Prop} (h : rdV env x y K) (ht : TmpOk env bs a) : ∃ v, K v ∧ (xt x → a.eval y = v) := by
  obtain ⟨s, h1, h2⟩ := rd_spec h ht
  cases s with
  | v u => exact ⟨u, h1, h2⟩
  | bx k o => exact h1.elim
  | junk => exact h1.elim

theorem rdL_spec {x : Option Bool} : ∀ {ys : List Operand} {K : List Value → Prop}, rdL env x ys K → TmpOk env bs a → ∃ vs, K vs ∧ vs.length = ys.length ∧ (xt x → ys.map a.eval = vs)
  | [], K, h, _ => ⟨[], h, rfl, fun _ => rfl⟩
  | y :: ys, K, h, ht => by
    obtain ⟨v, h1, h2⟩ := rdV_spec h ht
    obtain ⟨vs, h3, h4, h5⟩ := rdL_spec h1 ht
    exact ⟨v :: vs, h3, by simp [h4], fun hx => by simp [h2 hx, h5 hx]⟩

theorem rdO_spec {x : Option Bool} {y : Option Operand} {K : Option Value → Prop} (h : rdO env x y K) (ht : TmpOk env bs a) : ∃ v, K v ∧ (xt x → y.map a.eval = v) := by
  cases y with
  | none => exact ⟨none, h, fun _ => rfl⟩
  | some y =>
    obtain ⟨v, h1, h2⟩ := rdV_spec h ht
    exact ⟨some v, h1, fun hx => by simp [h2 hx]⟩

theorem side_spec {x : Option Bool} {p K : Prop} (h : side x p K) : K ∧ (xt x → p) := by
  unfold side at h
  cases x with
  | none => exact ⟨h.2, fun _ => h.1⟩
  | some x => exact ⟨h.2, fun hx => h.1 hx⟩

theorem kindEq_eq : ∀ {k k' : IntKind}, kindEq k k' = true → k = k' := by
  intro k k' h; cases k <;> cases k' <;> first | rfl | cases h

variable {P : Program} {tab : Tab}

/-- 'The operation yields v, whatever the world'. -/
def Yl (P : Program) (s : Sem Value) (v : Value) : Prop := ∀ w, s.run P w = .ok v w

theorem intVc_spec {x : Option Bool} {op : BinOp} {t k} {m n : Int} {K : Value → Prop} (h : intVc x op k m n K) :
    ∃ v, K v ∧ (xt x → Yl P (binOp op t (.int k m) (.int k n)) v) := by
  cases op <;> simp only [intVc] at h <;> first
    | exact h.elim
    | exact ⟨_, h, fun _ w => by simp [binOp, Op.intArith, Op.intBits, Op.intCmp]⟩
    | (obtain ⟨h1, h2⟩ := side_spec h; exact ⟨_, h1, fun hx w => by simp [binOp, Op.intDiv, h2 hx]⟩)

theorem strVc_spec {x : Option Bool} {op : BinOp} {t} {s u : ByteArray} {K : Value → Prop} (h : strVc x op s u K) :
    ∃ v, K v ∧ (xt x → Yl P (binOp op t (.string s) (.string u)) v) := by
  cases op <;> simp only [strVc] at h <;> first
    | exact h.elim
    | exact ⟨_, h, fun _ w => by simp [binOp, Op.stringOp]⟩
    | (obtain ⟨h1, h2⟩ := side_spec h; refine ⟨_, h1, fun hx w => ?_⟩
       have := h2 hx
       simp only [binOp, Op.stringOp]
       rw [if_neg (by simp only [IntKind.max, IntKind.signed, IntKind.bits]; omega)]
       rfl)

theorem eqGuard_int {op : BinOp} {t : TypeId} {x y : Operand} {k k' : IntKind} {m n : Int} (w : World) : (eqGuard op t x y (.int k m) (.int k' n)).run P w = .ok () w := by
  cases op <;> simp [eqGuard]
theorem eqGuard_str {op : BinOp} {t : TypeId} {x y : Operand} {m n : ByteArray} (w : World) : (eqGuard op t x y (.string m) (.string n)).run P w = .ok () w := by
  cases op <;> simp [eqGuard]
theorem eqGuard_bool {op : BinOp} {t : TypeId} {x y : Operand} {m n : Bool} (w : World) : (eqGuard op t x y (.bool m) (.bool n)).run P w = .ok () w := by
  cases op <;> simp [eqGuard]
theorem eqGuard_ptr {op : BinOp} {t : TypeId} {x y : Operand} {m n : Option Addr} (w : World) : (eqGuard op t x y (.pointer m) (.pointer n)).run P w = .ok () w := by
  cases op <;> simp [eqGuard]

theorem run_under (hT : TabOk P tab) {t : TypeId} {i : TI} (h : tab t = some i) (w : World) : (underlying t).run P w = .ok i.desc w := by
  simp [underlying, (hT t i h).1]

theorem run_info (hT : TabOk P tab) {t : TypeId} {i : TI} (h : tab t = some i) : ∃ f, f.size = i.size ∧ (∃ z, f.zero = some z ∧ z.cells = i.zero.toArray) ∧ ∀ w, (typeInfo t).run P w = .ok f w := by
  obtain ⟨f, h1, h2, h3, _⟩ := (hT t i h).2
  exact ⟨f, h2, h3, fun w => by simp [typeInfo, h1]⟩

theorem run_size (hT : TabOk P tab) {t : TypeId} {i : TI} (h : tab t = some i) (w : World) : (sizeOf t).run P w = .ok i.size w := by
  obtain ⟨f, h1, _, h3⟩ := run_info hT h
  simp [sizeOf, h3, h1]

theorem run_zero (hT : TabOk P tab) {t : TypeId} {i : TI} (h : tab t = some i) : ∃ z, z.cells = i.zero.toArray ∧ ∀ w, (zeroValue t).run P w = .ok z w := by
  obtain ⟨f, _, ⟨z, h2, h4⟩, h3⟩ := run_info hT h
  exact ⟨z, h4, fun w => by simp [zeroValue, h3, h2]⟩

theorem equalIn_bool (hT : TabOk P tab) {t : TypeId} {i : TI} (h : tab t = some i) (hd : i.desc = .bool) (d : Nat) (m n : Bool) (w : World) : (Op.equalIn (d + 1) t (.bool m) (.bool n)).run P w = .ok (m == n) w := by
  have hu := run_under hT h w
  rw [hd] at hu
  simp [Op.equalIn, hu]
theorem equalIn_ptr (hT : TabOk P tab) {t e : TypeId} {i : TI} (h : tab t = some i) (hd : i.desc = .pointer e) (d : Nat) (p : Option Addr) (w : World) : (Op.equalIn (d + 1) t (.pointer p) (.pointer none)).run P w = .ok p.isNone w := by
  have hu := run_under hT h w
  rw [hd] at hu
  cases p <;> simp [Op.equalIn, hu]

theorem binVc_spec (hT : TabOk P tab) {x : Option Bool} {op : BinOp} {t} {c d : Operand} {u v : Value} {K : Value → Prop} (h : binVc tab x op t u v K) :
    ∃ r, K r ∧ (xt x → Yl P (do eqGuard op t c d u v; binOp op t u v) r) := by
  unfold binVc at h
  split at h
  · obtain ⟨h1, h2⟩ := side_spec h
    refine ⟨_, h1, fun hx w => ?_⟩
    have := h2 hx
    simp only [Sem.run_bind, eqGuard_int, Result.andThen_ok, binOp, Op.shift]
    rw [if_neg (by omega)]; rfl
  · obtain ⟨h1, h2⟩ := side_spec h
    refine ⟨_, h1, fun hx w => ?_⟩
    have := h2 hx
    simp only [Sem.run_bind, eqGuard_int, Result.andThen_ok, binOp, Op.shift]
    rw [if_neg (by omega)]; rfl
  · split at h
    · rename_i hk
      obtain rfl := kindEq_eq hk
      obtain ⟨r, h1, h2⟩ := intVc_spec (P := P) (t := t) h
      exact ⟨r, h1, fun hx w => by simp only [Sem.run_bind, eqGuard_int, Result.andThen_ok]; exact h2 hx w⟩
    · exact h.elim
  · obtain ⟨r, h1, h2⟩ := strVc_spec (P := P) (t := t) h
    exact ⟨r, h1, fun hx w => by simp only [Sem.run_bind, eqGuard_str, Result.andThen_ok]; exact h2 hx w⟩
  · split at h
    · rename_i ht
      have hu := equalIn_bool hT ht rfl 9999
      refine ⟨_, h, fun hx w => ?_⟩
      simp only [Sem.run_bind, eqGuard_bool, Result.andThen_ok]
      show (Op.equalIn (9999 + 1) _ _ _ >>= _).run P w = _
      simp only [Sem.run_bind, hu, Result.andThen_ok, Sem.run_pure]
    · exact h.elim
  · split at h
    · rename_i ht
      have hu := equalIn_bool hT ht rfl 9999
      refine ⟨_, h, fun hx w => ?_⟩
      simp only [Sem.run_bind, eqGuard_bool, Result.andThen_ok]
      show (Op.equalIn (9999 + 1) _ _ _ >>= _).run P w = _
      simp only [Sem.run_bind, hu, Result.andThen_ok, Sem.run_pure]
    · exact h.elim
  · rename_i p
    split at h
    · rename_i ht
      have hu := equalIn_ptr hT ht rfl 9999
      refine ⟨_, h, fun hx w => ?_⟩
      simp only [Sem.run_bind, eqGuard_ptr, Result.andThen_ok]
      have e : binOp .eql t (.pointer p) (.pointer none) = (do pure (.bool (← Op.equal t (.pointer p) (.pointer none)))) := by cases p <;> rfl
      rw [e]
      simp only [Op.equal, Op.maxDepth, Sem.run_bind, hu, Result.andThen_ok, Sem.run_pure]
    · exact h.elim
  · rename_i p
    split at h
    · rename_i ht
      have hu := equalIn_ptr hT ht rfl 9999
      refine ⟨_, h, fun hx w => ?_⟩
      simp only [Sem.run_bind, eqGuard_ptr, Result.andThen_ok]
      have e : binOp .neq t (.pointer p) (.pointer none) = (do pure (.bool (!(← Op.equal t (.pointer p) (.pointer none))))) := by cases p <;> rfl
      rw [e]
      simp only [Op.equal, Op.maxDepth, Sem.run_bind, hu, Result.andThen_ok, Sem.run_pure]
    · exact h.elim
  · exact h.elim

theorem cellsOf_eq (v : Value) : v.cells = (cellsOf v).toArray := by cases v <;> simp [Value.cells, cellsOf]

theorem mem_findBx {k : Nat} {x : Bx} : ∀ {bs : List Bx}, findBx k bs = some x → x ∈ bs ∧ x.id = k
  | y :: r, h => by
    unfold findBx at h
    split at h
    · rename_i hb
      cases h
      exact ⟨List.mem_cons_self .., Nat.eq_of_beq_eq_true hb⟩
    · obtain ⟨h1, h2⟩ := mem_findBx h
      exact ⟨List.mem_cons_of_mem _ h1, h2⟩

theorem boxCells_spec {x : Option Bool} {k : Nat} {cells : Array Value} : ∀ {n off : Nat} {K : List Value → Prop}, boxCells env x k off n K →
    (∀ o, off ≤ o → o < off + n → RelE bs (find (k, o) env) (cells.getD o undef)) →
    ∃ vs, K vs ∧ vs.length = n ∧ (xt x → ∀ j, j < n → cells.getD (off + j) undef = vs.getD j undef)
  | 0, off, K, h, _ => ⟨[], h, rfl, fun _ j hj => by omega⟩
  | n + 1, off, K, h, hr => by
    obtain ⟨s, h1, h2⟩ := need_spec h (hr off (Nat.le_refl _) (by omega))
    cases s with
    | v u =>
      obtain ⟨vs, h3, h4, h5⟩ := boxCells_spec (cells := cells) h1 (fun o a b => hr o (by omega) (by omega))
      refine ⟨u :: vs, h3, by simp [h4], fun hx j hj => ?_⟩
      cases j with
      | zero => exact h2 hx
      | succ j =>
        have := h5 hx j (by omega)
        simpa [Nat.add_assoc, Nat.add_comm 1] using this
    | bx k o => exact h1.elim
    | junk => exact h1.elim

theorem loadCellsFrom_run {ad : Addr} {w : World} : ∀ (n i : Nat) (acc : Array Value) (vs : List Value), vs.length = n → (∀ j, j < n → w.cell? (ad.add (i + j)) = some (vs.getD j undef)) →
    (loadCellsFrom ad i n acc).run P w = .ok (acc ++ vs.toArray) w
  | 0, i, acc, vs, hl, h => by
    obtain rfl : vs = [] := by cases vs <;> simp_all
    simp [loadCellsFrom]
  | n + 1, i, acc, v :: vs, hl, h => by
    have h0 := h 0 (by omega)
    simp only [Nat.add_zero, List.getD_cons_zero] at h0
    have ih := loadCellsFrom_run n (i + 1) (acc.push v) vs (by simpa using hl) (fun j hj => by
      have := h (j + 1) (by omega)
      simpa [Nat.add_assoc, Nat.add_comm 1] using this)
    simp only [loadCellsFrom, Sem.run_bind, run_load, h0, Result.andThen_ok, ih]
    simp

theorem findBx_mem {k : Nat} {bs : List Bx} (hd : (bs.map (·.id)).Nodup) {x : Bx} (hx : x ∈ bs) (hk : x.id = k) : findBx k bs = some x := by
  induction bs with
  | nil => cases hx
  | cons y r ih =>
    simp only [List.map_cons, List.nodup_cons, List.mem_map, not_exists, not_and] at hd
    unfold findBx
    rcases List.mem_cons.1 hx with rfl | hm
    · have : Nat.beq x.id k = true := by rw [hk]; exact Nat.beq_refl k
      simp [this]
    · have : Nat.beq y.id k = false := by
        cases hb : Nat.beq y.id k with
        | false => rfl
        | true =>
          have := Nat.eq_of_beq_eq_true hb
          exact absurd (hk.trans this.symm) (hd.1 x hm)
      simp only [this]
      exact ih hd.2 hm

theorem isAgg_run (hT : TabOk P tab) {t : TypeId} {i : TI} (h : tab t = some i) (w : World) : (isAgg t).run P w = .ok (isAggB i.desc) w := by
  have hu := run_under hT h w
  simp only [isAgg, Sem.run_bind, hu, Result.andThen_ok]
  cases i.desc <;> rfl

theorem boxLoad_spec (hT : TabOk P tab) {x : Option Bool} {t : TypeId} {k off : Nat} {K : SV → Prop} (h : boxLoad tab env bs x t k off K) {w0 : World} (hb : BoxOk env bs w0) :
    ∃ s, K s ∧ (xt x → ∃ v, RelSV bs s v ∧ ∀ w, (∀ y ∈ bs, y.id = k → w.heap[y.b]? = w0.heap[y.b]?) → ∀ u, RelSV bs (.bx k off) u → (Instr.loadAt t u).run P w = .ok v w) := by
  unfold boxLoad at h
  split at h
  · exact h.elim
  rename_i i hi
  split at h
  · exact h.elim
  rename_i bx hbx
  obtain ⟨hmem, hid⟩ := mem_findBx hbx
  obtain ⟨cells, T, hc, hn, hr⟩ := hb bx hmem
  rw [hid] at hr
  have cell : ∀ w : World, (∀ y ∈ bs, y.id = k → w.heap[y.b]? = w0.heap[y.b]?) → ∀ j, off + j < bx.n → w.cell? ((⟨bx.b, off, none⟩ : Addr).add j) = some (cells.getD (off + j) undef) := by
    intro w hw j hj
    have e : ((⟨bx.b, off, none⟩ : Addr).add j) = ⟨bx.b, off + j, none⟩ := by
      unfold Addr.add; split
      · subst_vars; rfl
      · rfl
    rw [e]
    have hc' := (hw bx hmem hid).trans hc
    simp only [World.cell?, hc', Option.isSome_none]
    simp [hn, hj]
  split at h
  · rename_i hagg
    split at h
    · rename_i hle
      have hle := Nat.le_of_ble_eq_true hle
      obtain ⟨vs, h1, h2, h3⟩ := boxCells_spec (cells := cells) h (fun o a b => hr o (by omega))
      refine ⟨_, h1, fun hx => ⟨_, rfl, fun w hw u hu => ?_⟩⟩
      obtain ⟨bx', hb', rfl⟩ := hu
      rw [hbx] at hb'; cases hb'
      have := loadCellsFrom_run (P := P) (w := w) (ad := ⟨bx.b, off, none⟩) i.size 0 #[] vs h2 (fun j hj => by
        rw [Nat.zero_add, cell w hw j (by omega), h3 hx j hj])
      simp [Instr.loadAt, Instr.sureAddr, loadVar, isAgg_run hT hi, hagg, run_size hT hi, loadCells, this]
    · exact h.elim
  · rename_i hagg
    split at h
    · rename_i hle
      have hle := Nat.le_of_ble_eq_true hle
      obtain ⟨s, h1, h2⟩ := need_spec h (hr off (by omega))
      refine ⟨s, h1, fun hx => ⟨_, h2 hx, fun w hw u hu => ?_⟩⟩
      obtain ⟨bx', hb', rfl⟩ := hu
      rw [hbx] at hb'; cases hb'
      have := cell w hw 0 (by omega)
      simp only [Nat.add_zero] at this
      have e0 : ((⟨bx.b, off, none⟩ : Addr).add 0) = ⟨bx.b, off, none⟩ := rfl
      rw [e0] at this
      simp [Instr.loadAt, Instr.sureAddr, loadVar, isAgg_run hT hi, hagg, this]
    · exact h.elim

theorem splice_eq : ∀ (new : List Value) (off : Nat) (cells : List Value), off + new.length ≤ cells.length →
    (new.zipIdx.foldl (fun (cs : Array Value) (x : Value × Nat) => cs.setIfInBounds (off + x.2) x.1) cells.toArray) = (splice off new cells).toArray := by
  have gen : ∀ (new : List Value) (off k : Nat) (cells : List Value), off + k + new.length ≤ cells.length →
      ((new.zipIdx k).foldl (fun (cs : Array Value) (x : Value × Nat) => cs.setIfInBounds (off + x.2) x.1) cells.toArray) = (splice (off + k) new cells).toArray := by
    intro new
    induction new with
    | nil => intro off k cells h; simp [splice]
    | cons u us ih =>
      intro off k cells h
      simp only [List.length_cons] at h
      simp only [List.zipIdx_cons, List.foldl_cons, List.setIfInBounds_toArray]
      rw [ih off (k + 1) (cells.set (off + k) u) (by simp; omega)]
      congr 1
      simp only [splice, List.length_cons]
      have h1 : off + k < cells.length := by omega
      rw [show off + (k + 1) = (off + k) + 1 from by omega]
      rw [List.take_set, List.drop_set, if_pos (by omega)]
      rw [List.take_succ_eq_append_getElem h1, List.set_append]
      simp only [List.length_take]
      rw [if_neg (by omega)]
      rw [show off + k - min (off + k) cells.length = 0 from by omega]
      simp
      rw [show off + k + (us.length + 1) = off + k + 1 + us.length from by omega]
  intro new off cells h
  exact gen new off 0 cells h

theorem fill_eq (place : Nat → Option (Nat × Nat)) : ∀ (l : List (Nat × Value)) (cells : List Value) (r : List Value), fillL place cells l = some r → Instr.fill place cells.toArray l = some r.toArray
  | [], cells, r, h => by simp only [fillL] at h; cases h; rfl
  | (i, v) :: rest, cells, r, h => by
    unfold fillL at h
    unfold Instr.fill
    split at h
    · cases h
    · rename_i off size hp
      split at h
      · rename_i hb
        simp only [Bool.and_eq_true] at hb
        have h1 := Nat.eq_of_beq_eq_true hb.1
        have h2 := Nat.le_of_ble_eq_true hb.2
        simp only [hp, cellsOf_eq, List.size_toArray]
        rw [if_neg (by simp; omega)]
        have e := splice_eq _ _ _ h2
        have e2 : (cellsOf v).toArray.zipIdx = (cellsOf v).zipIdx.toArray := by simp
        rw [e2]
        simp only [List.size_toArray, List.foldl_toArray']
        rw [e]
        exact fill_eq place rest _ r h
      · cases h
end
end Go.Vc

namespace Go.Vc
section
variable {bs : List Bx} {env : Env} {a : Act} {P : Program} {tab : Tab}

theorem pickEnt_spec {y : Operand} {K : Ent → Prop} (h : pickEnt env y K) (ht : TmpOk env bs a) : ∃ e, K e ∧ RelE bs e (a.eval y) := by
  cases y with
  | tmp t => exact ⟨_, h, ht t⟩
  | const v => exact ⟨_, h, RelE.v⟩
  | global g => exact h.elim
  | func f => exact h.elim

theorem needC_spec {x : Option Bool} {hyp : Prop} {e : Ent} {K : SV → Prop} {u : Value} (h : needC x hyp e K) (hr : RelE bs e u) : ∃ s, K s ∧ (xt x → hyp → RelSV bs s u) := by
  unfold needC at h
  obtain ⟨y, s⟩ := e
  cases y with
  | none => exact ⟨s, h, fun _ _ => hr.1 trivial⟩
  | some y =>
    refine ⟨s, h.2, fun hx hh => hr.1 ?_⟩
    have h1 := h.1
    cases x with
    | none => exact h1 hh
    | some x => exact h1 hx hh

theorem need_self {x : Option Bool} {e : Ent} {K : SV → Prop} (h : need x e K) (hx : xt x) : xt e.x := by
  unfold need at h
  obtain ⟨y, s⟩ := e
  cases y with
  | none => trivial
  | some y =>
    have h1 := h.1
    cases x with
    | none => exact h1
    | some x => exact h1 hx

/-- What an operation that turns nothing comes to. -/
def PureOk (P : Program) (env : Env) (bs : List Bx) (a : Act) (w0 : World) (o : Oper) (x : Option Bool) (s : SV) : Prop :=
  xt x → ∃ v, RelSV bs s v ∧ ∀ w : World, (∀ y ∈ bs, rdsBox env o.op = some y.id → w.heap[y.b]? = w0.heap[y.b]?) → (execOp a.eval o).run P w = .ok (.value v) w

theorem fieldAt_run (hT : TabOk P tab) {t : TypeId} {fs : Array Field} {i : TI} (hi : tab t = some i) (hd : i.desc = .struct fs) {f off ft : Nat} (hf : fieldOf fs f = some (off, ft)) {fi : TI} (hfi : tab ft = some fi) {k : Nat} (hs : fi.size = k + 1) (ad : Addr) (w : World) :
    (Instr.fieldAt t (.pointer (some ad)) f).run P w = .ok (.pointer (some (ad.add off))) w := by
  have hu := run_under hT hi w
  rw [hd] at hu
  simp only [fieldOf, Option.map_eq_some_iff] at hf
  obtain ⟨fl, h1, h2⟩ := hf
  simp only [Prod.mk.injEq] at h2
  obtain ⟨rfl, rfl⟩ := h2
  have h1' : fs[f]? = some fl := by simpa using h1
  simp [Instr.fieldAt, hu, h1', Instr.sureAddr, fieldPlace, run_size hT hfi, hs]

theorem addr_add (b off n : Nat) : (⟨b, off, none⟩ : Addr).add n = ⟨b, off + n, none⟩ := by
  unfold Addr.add; split
  · subst_vars; rfl
  · rfl

theorem sliceBound_run {k : IntKind} {n : Int} {y : Nat} {c : BoundsCode} (h : 0 ≤ n ∧ n ≤ (y : Int)) (w : World) : (Instr.sliceBound (.int k n) y c).run P w = .ok n.toNat w := by
  simp [Instr.sliceBound, asIntOf, h.1, h.2]

theorem sliceVc_spec (hT : TabOk P tab) {x : Option Bool} {t : TypeId} {v : Value} {lo hi : Option Value} {K : Value → Prop} (h : sliceVc tab x t v lo hi K) :
    ∃ r, K r ∧ (xt x → ∀ w, (Instr.sliceAt t v lo hi none).run P w = .ok r w) := by
  unfold sliceVc at h
  split at h
  · rename_i ht
    have hu := run_under hT ht
    split at h
    · rename_i s
      split at h
      · exact ⟨_, h, fun _ w => by simp [Instr.sliceAt, hu, Instr.slice, Instr.sliceBounds]⟩
      · obtain ⟨h1, h2⟩ := side_spec h
        exact ⟨_, h1, fun hx w => by simp [Instr.sliceAt, hu, Instr.slice, Instr.sliceBounds, sliceBound_run (h2 hx)]⟩
      · obtain ⟨h1, h2⟩ := side_spec h
        exact ⟨_, h1, fun hx w => by simp [Instr.sliceAt, hu, Instr.slice, Instr.sliceBounds, sliceBound_run (h2 hx)]⟩
      · rename_i l _ hh
        obtain ⟨h1, h2⟩ := side_spec h
        refine ⟨_, h1, fun hx w => ?_⟩
        have h3 := h2 hx
        have e1 : 0 ≤ hh ∧ hh ≤ (s.size : Int) := by omega
        have e2 : 0 ≤ l ∧ l ≤ ((hh.toNat : Nat) : Int) := by omega
        simp [Instr.sliceAt, hu, Instr.slice, Instr.sliceBounds, sliceBound_run e1, sliceBound_run e2]
      · exact h.elim
    · exact h.elim
  · rename_i e _ _ _ _ _ ht
    have hu := run_under hT ht
    split at h
    · rename_i ei ad len cap hei
      have hz := run_size hT hei
      split at h
      · exact ⟨_, h, fun _ w => by simp [Instr.sliceAt, hu, Instr.slice, Instr.sliceBounds, hz]⟩
      · obtain ⟨h1, h2⟩ := side_spec h
        exact ⟨_, h1, fun hx w => by simp [Instr.sliceAt, hu, Instr.slice, Instr.sliceBounds, hz, sliceBound_run (h2 hx)]⟩
      · obtain ⟨h1, h2⟩ := side_spec h
        exact ⟨_, h1, fun hx w => by simp [Instr.sliceAt, hu, Instr.slice, Instr.sliceBounds, hz, sliceBound_run (h2 hx)]⟩
      · rename_i l _ hh
        obtain ⟨h1, h2⟩ := side_spec h
        refine ⟨_, h1, fun hx w => ?_⟩
        have h3 := h2 hx
        have e1 : 0 ≤ hh ∧ hh ≤ (cap : Int) := by omega
        have e2 : 0 ≤ l ∧ l ≤ ((hh.toNat : Nat) : Int) := by omega
        simp [Instr.sliceAt, hu, Instr.slice, Instr.sliceBounds, hz, sliceBound_run e1, sliceBound_run e2]
      · exact h.elim
    · exact h.elim
  · exact h.elim

def szT (tab : Tab) (t : TypeId) : Nat := match tab t with | some i => i.size | none => 0

theorem places_run (hT : TabOk P tab) (fs : Array Field) (h : (fs.toList.all fun f => (tab f.type).isSome) = true) (w : World) :
    (fs.mapM fun f => do pure (f.offset, ← sizeOf f.type) : Sem _).run P w = .ok (fs.map fun f => (f.offset, szT tab f.type)) w := by
  rw [Array.mapM_eq_mapM_toList]
  have key : ∀ l : List Field, (l.all fun f => (tab f.type).isSome) = true → (l.mapM fun f => do pure (f.offset, ← sizeOf f.type) : Sem _).run P w = .ok (l.map fun f => (f.offset, szT tab f.type)) w := by
    intro l
    induction l with
    | nil => intro _; rfl
    | cons f r ih =>
      intro hl
      simp only [List.all_cons, Bool.and_eq_true] at hl
      obtain ⟨i, hi⟩ := Option.isSome_iff_exists.1 hl.1
      simp only [List.mapM_cons, Sem.run_bind, run_size hT hi, Result.andThen_ok, Sem.run_pure, ih hl.2, List.map_cons, szT, hi]
  rw [Sem.run_map, key _ h]
  simp only [Result.andThen_ok]
  congr 1
  exact Array.ext' (by simp)

theorem places_eq (fs : Array Field) (h : (fs.toList.all fun f => (tab f.type).isSome) = true) : (fun i => (fs.map fun f => (f.offset, szT tab f.type))[i]?) = (fun i => (fieldOf fs i).bind fun (off, ft) => (tab ft).map fun ti => (off, ti.size)) := by
  funext i
  simp only [fieldOf, Array.getElem?_map, Array.getElem?_toList]
  cases hf : fs[i]? with
  | none => rfl
  | some f =>
    have hm : f ∈ fs.toList := by
      have := Array.mem_of_getElem? hf
      simpa using this
    have := List.all_eq_true.1 h f hm
    obtain ⟨ti, hti⟩ := Option.isSome_iff_exists.1 this
    simp [szT, hti]

theorem pure_sound (hT : TabOk P tab) {x : Option Bool} {m : Nat} {o : Oper} {K : SV → Prop} {w0 : World} (h : pureVc tab env bs x m o.op K) (ht : TmpOk env bs a) (hb : BoxOk env bs w0) :
    ∃ s, K s ∧ PureOk P env bs a w0 o x s := by
  obtain ⟨dst, op, ty, pos, after, guard⟩ := o
  unfold PureOk
  dsimp only at h ⊢
  cases op <;> simp only [pureVc] at h <;> try exact h.elim
  case move y =>
    obtain ⟨s, h1, h2⟩ := rd_spec h ht
    exact ⟨s, h1, fun hx => ⟨_, h2 hx, fun w _ => rfl⟩⟩
  case assign y =>
    obtain ⟨s, h1, h2⟩ := rd_spec h ht
    exact ⟨s, h1, fun hx => ⟨_, h2 hx, fun w _ => rfl⟩⟩
  case pick c y z =>
    obtain ⟨cv, h1, h2⟩ := rdV_spec h ht
    cases cv <;> try exact h1.elim
    rename_i c'
    dsimp only at h1
    split at h1
    · obtain ⟨ea, h3, h4⟩ := pickEnt_spec h1 ht
      obtain ⟨eb, h5, h6⟩ := pickEnt_spec h3 ht
      obtain ⟨sa, h7, h8⟩ := needC_spec h5 h4
      obtain ⟨sb, h9, h10⟩ := needC_spec h7 h6
      split at h9
      · refine ⟨_, h9, fun hx => ⟨_, rfl, fun w _ => ?_⟩⟩
        simp only [execOp, h2 hx, asBool]
        cases c'
        · have := h10 hx rfl
          simp only [RelSV] at this
          simp [this]
        · have := h8 hx rfl
          simp only [RelSV] at this
          simp [this]
      · exact h9.elim
    · split at h1
      · obtain ⟨s, h3, h4⟩ := rd_spec h1 ht
        exact ⟨s, h3, fun hx => ⟨_, h4 hx, fun w _ => by simp [execOp, h2 hx, asBool]⟩⟩
      · obtain ⟨s, h3, h4⟩ := rd_spec h1 ht
        exact ⟨s, h3, fun hx => ⟨_, h4 hx, fun w _ => by simp [execOp, h2 hx, asBool]⟩⟩
    · exact h1.elim
  case build t ps =>
    have run : ∀ (vs : List Value), (ps.toList.map (·.2)).map a.eval = vs → (ps.map fun (i, x) => (i, a.eval x)).toList = (ps.toList.map (·.1)).zip vs := by
      intro vs hv
      subst hv
      simp only [Array.toList_map, List.map_map]
      generalize ps.toList = l
      induction l with
      | nil => rfl
      | cons y r ih => simp only [List.map_cons, List.zip_cons_cons, ih]; rfl
    split at h
    · rename_i fs _ _ z _ _ hi
      split at h
      · rename_i hall
        obtain ⟨vs, h1, _, h2⟩ := rdL_spec h ht
        split at h1
        · rename_i cells hf
          refine ⟨_, h1, fun hx => ⟨_, rfl, fun w _ => ?_⟩⟩
          obtain ⟨zz, hz1, hz2⟩ := run_zero hT hi
          have hu := run_under hT hi
          have hp := places_run hT fs hall w
          have hfill := fill_eq _ _ _ _ hf
          simp only [execOp, Instr.build, Sem.run_bind, hz2, hu, Result.andThen_ok, hp]
          rw [run vs (h2 hx), hz1, places_eq fs hall, hfill]
          rfl
        · exact h1.elim
      · exact h.elim
    · rename_i len e _ _ z _ _ hi
      split at h
      · rename_i ei hei
        obtain ⟨vs, h1, _, h2⟩ := rdL_spec h ht
        split at h1
        · rename_i cells hf
          refine ⟨_, h1, fun hx => ⟨_, rfl, fun w _ => ?_⟩⟩
          obtain ⟨zz, hz1, hz2⟩ := run_zero hT hi
          have hu := run_under hT hi
          have hfill := fill_eq _ _ _ _ hf
          simp only [execOp, Instr.build, Sem.run_bind, hz2, hu, Result.andThen_ok, run_size hT hei]
          rw [run vs (h2 hx), hz1, hfill]
          rfl
        · exact h1.elim
      · exact h.elim
    · exact h.elim
  case load t y =>
    cases y <;> try exact h.elim
    rename_i t'
    dsimp only at h
    split at h
    · rename_i k off hs
      obtain ⟨s0, h1, h2⟩ := need_spec h (ht t')
      obtain ⟨s, h3, h4⟩ := boxLoad_spec (P := P) hT h1 hb
      refine ⟨s, h3, fun hx => ?_⟩
      obtain ⟨v, h5, h6⟩ := h4 hx
      refine ⟨v, h5, fun w hw => ?_⟩
      have hk : rdsBox env (.load t (.tmp t')) = some k := by simp only [rdsBox, hs]
      have hr : RelSV bs (.bx k off) (a.eval (.tmp t')) := by
        have h7 := need_self h hx
        have := (ht t').1 h7
        rw [hs] at this
        exact this
      have := h6 w (fun z hz hzk => hw z hz (by rw [hk, hzk])) _ hr
      simp only [execOp, Sem.run_bind, this]
      rfl
    · exact h.elim
  case extract y i =>
    obtain ⟨v, h1, h2⟩ := rdV_spec h ht
    split at h1
    · split at h1
      · rename_i vs _ u hu
        have hu' : vs[i]? = some u := by simpa using hu
        exact ⟨_, h1, fun hx => ⟨_, rfl, fun w _ => by simp [execOp, h2 hx, Instr.extract, hu']⟩⟩
      · exact h1.elim
    · exact h1.elim
  case slice t y lo hi mx =>
    cases mx with
    | some z => exact h.elim
    | none =>
      obtain ⟨v, h1, h2⟩ := rdV_spec h ht
      obtain ⟨l, h3, h4⟩ := rdO_spec h1 ht
      obtain ⟨hh, h5, h6⟩ := rdO_spec h3 ht
      obtain ⟨r, h7, h8⟩ := sliceVc_spec (P := P) hT h5
      refine ⟨_, h7, fun hx => ⟨_, rfl, fun w _ => ?_⟩⟩
      have := h8 hx w
      simp only [execOp, h2 hx, h4 hx, h6 hx, Sem.run_bind, Option.map_none, this]
      rfl
  case index t y i =>
    obtain ⟨v, h1, h2⟩ := rdV_spec h ht
    obtain ⟨iv, h3, h4⟩ := rdV_spec h1 ht
    split at h3
    · split at h3
      · rename_i n _ _ _ s _ _ _ _ _ hi
        have hu := run_under hT hi
        split at h3
        · obtain ⟨c, ⟨h5, h6⟩, h7⟩ := h3
          exact ⟨_, h7, fun hx => ⟨_, rfl, fun w _ => by simp [execOp, h2 hx, h4 hx, Instr.index, asIntOf, hu, h5, h6]⟩⟩
        · obtain ⟨c, h5, h7⟩ := h3
          refine ⟨_, h7, fun hx => ⟨_, rfl, fun w _ => ?_⟩⟩
          obtain ⟨h5, h6⟩ := h5 hx
          simp [execOp, h2 hx, h4 hx, Instr.index, asIntOf, hu, h5, h6]
      · exact h3.elim
    · exact h3.elim
  case indexAddr t y i =>
    obtain ⟨iv, h1, h2⟩ := rdV_spec h ht
    split at h1
    · rename_i n
      split at h1
      · rename_i e _ _ _ _ _ hi
        have hu := run_under hT hi
        split at h1
        · rename_i ei hei
          obtain ⟨v, h3, h4⟩ := rdV_spec h1 ht
          split at h3
          · rename_i base len cap
            have run : ∀ ad, base = some ad → (0 ≤ n ∧ n < (len : Int)) → xt x → ∀ w, (execOp a.eval ⟨dst, .indexAddr t y i, ty, pos, after, guard⟩).run P w = .ok (.value (.pointer (some (ad.add (n.toNat * ei.size))))) w := by
              intro ad hb' hn hx w
              subst hb'
              simp [execOp, h2 hx, h4 hx, Instr.indexAt, asIntOf, hu, hn.1, hn.2, run_size hT hei]
            split at h3
            · split at h3
              · obtain ⟨h5, h6⟩ := side_spec h3
                exact ⟨_, h5, fun hx => ⟨_, rfl, fun w _ => run _ rfl (h6 hx) hx w⟩⟩
              · exact h3.elim
            · split at h3
              · obtain ⟨ad, h5, h6, h7⟩ := h3
                exact ⟨_, h7, fun hx => ⟨_, rfl, fun w _ => run _ h5 h6 hx w⟩⟩
              · obtain ⟨ad, h5, h7⟩ := h3
                exact ⟨_, h7, fun hx => ⟨_, rfl, fun w _ => run _ (h5 hx).1 (h5 hx).2 hx w⟩⟩
          · exact h3.elim
        · exact h1.elim
      · rename_i len e _ _ _ _ _ hi
        have hu := run_under hT hi
        split at h1
        · rename_i ei hei
          obtain ⟨s, h3, h4⟩ := rd_spec h1 ht
          have run : ∀ ad, a.eval y = .pointer (some ad) → (0 ≤ n ∧ n < (len : Int)) → xt x → ∀ w, (execOp a.eval ⟨dst, .indexAddr t y i, ty, pos, after, guard⟩).run P w = .ok (.value (.pointer (some (ad.add (n.toNat * ei.size))))) w := by
            intro ad hb' hn hx w
            simp [execOp, h2 hx, hb', Instr.indexAt, Instr.sureAddr, asIntOf, hu, hn.1, hn.2, run_size hT hei]
          split at h3
          · rename_i k off
            obtain ⟨h5, h6⟩ := side_spec h3
            refine ⟨_, h5, fun hx => ?_⟩
            obtain ⟨b, hb1, hb2⟩ := h4 hx
            refine ⟨.pointer (some ⟨b.b, off + n.toNat * ei.size, none⟩), ⟨b, hb1, rfl⟩, fun w _ => ?_⟩
            rw [run _ hb2 (h6 hx) hx w, addr_add]
          · obtain ⟨h5, h6⟩ := side_spec h3
            exact ⟨_, h5, fun hx => ⟨_, rfl, fun w _ => run _ (h4 hx) (h6 hx) hx w⟩⟩
          · exact h3.elim
        · exact h1.elim
      · exact h1.elim
    · exact h1.elim
  case call c =>
    obtain ⟨callee, as, ts⟩ := c
    cases callee <;> try exact h.elim
    rename_i bt
    cases bt <;> try exact h.elim
    dsimp only at h
    split at h
    · rename_i y t hy hts
      obtain ⟨v, h1, h2⟩ := rdV_spec h ht
      have ey : as.map a.eval = #[a.eval y] := Array.ext' (by simp [hy])
      have et : ts = #[t] := Array.ext' (by simp [hts])
      split at h1
      · rename_i hi
        have hu := run_under hT hi
        split at h1
        · exact ⟨_, h1, fun hx => ⟨_, rfl, fun w _ => by simp [execOp, resolve, ey, et, invoke, builtin, h2 hx, Builtin.len_, hu, goInt]⟩⟩
        · exact h1.elim
      · rename_i hi
        have hu := run_under hT hi
        split at h1
        · exact ⟨_, h1, fun hx => ⟨_, rfl, fun w _ => by simp [execOp, resolve, ey, et, invoke, builtin, h2 hx, Builtin.len_, hu, goInt]⟩⟩
        · exact h1.elim
      · exact h1.elim
    · exact h.elim
  case nilCheck y =>
    obtain ⟨s, h1, h2⟩ := rd_spec h ht
    split at h1
    · exact ⟨_, h1, fun hx => ⟨_, h2 hx, fun w _ => by
        obtain ⟨b, _, h3⟩ := h2 hx
        simp [execOp, h3]⟩⟩
    · split at h1
      · split at h1
        · refine ⟨_, h1, fun hx => ⟨_, rfl, fun w _ => ?_⟩⟩
          have := h2 hx
          simp only [RelSV] at this
          simp [execOp, this]
        · exact h1.elim
      · split at h1
        · obtain ⟨ad, rfl, h1⟩ := h1
          refine ⟨_, h1, fun hx => ⟨_, rfl, fun w _ => ?_⟩⟩
          have := h2 hx
          simp only [RelSV] at this
          simp [execOp, this]
        · obtain ⟨ad, h3, h1⟩ := h1
          refine ⟨_, h1, fun hx => ⟨_, rfl, fun w _ => ?_⟩⟩
          have := h2 hx
          rw [h3 hx] at this
          simp only [RelSV] at this
          simp [execOp, this]
    · refine ⟨_, h1, fun hx => ⟨_, rfl, fun w _ => ?_⟩⟩
      have := h2 hx
      simp only [RelSV] at this
      simp [execOp, this]
    · exact h1.elim
  case binOp op t y z _ =>
    obtain ⟨u, h1, h2⟩ := rdV_spec h ht
    obtain ⟨v, h3, h4⟩ := rdV_spec h1 ht
    obtain ⟨r, h5, h6⟩ := binVc_spec (P := P) hT (c := y) (d := z) h3
    refine ⟨_, h5, fun hx => ⟨_, rfl, fun w _ => ?_⟩⟩
    have := h6 hx w
    simp only [execOp, h2 hx, h4 hx, Sem.run_bind] at this ⊢
    rw [this]; rfl
  case unOp op t y =>
    obtain ⟨u, h1, h2⟩ := rdV_spec h ht
    split at h1 <;> first
      | exact h1.elim
      | exact ⟨_, h1, fun hx => ⟨_, rfl, fun w _ => by simp [execOp, h2 hx, Op.unary, Op.intArith, Op.intBits]⟩⟩
  case convert s d y =>
    obtain ⟨u, h1, h2⟩ := rdV_spec h ht
    split at h1
    · rename_i hs hd
      have us := run_under hT hs
      have ud := run_under hT hd
      split at h1
      · exact ⟨_, h1, fun hx => ⟨_, rfl, fun w _ => by simp [execOp, h2 hx, convert, us, ud, Conv.intToInt]⟩⟩
      · exact h1.elim
    · rename_i hs hd
      have us := run_under hT hs
      have ud := run_under hT hd
      split at h1
      · exact ⟨_, h1, fun hx => ⟨_, rfl, fun w _ => by simp [execOp, h2 hx, convert, us, ud]⟩⟩
      · exact h1.elim
    · exact h1.elim
  case makeFunc fn fs cs =>
    obtain ⟨v1, h1, _, h2⟩ := rdL_spec h ht
    obtain ⟨v2, h3, _, h4⟩ := rdL_spec h1 ht
    refine ⟨_, h3, fun hx => ⟨_, rfl, fun w _ => ?_⟩⟩
    have e1 : fs.map a.eval = v1.toArray := Array.ext' (by rw [Array.toList_map]; exact h2 hx)
    have e2 : cs.map a.eval = v2.toArray := Array.ext' (by rw [Array.toList_map]; exact h4 hx)
    simp [execOp, Instr.makeFunc, e1, e2]
  case fieldAddr t y f =>
    split at h
    · rename_i fs _ _ _ _ _ hi
      split at h
      · rename_i off ft hf
        split at h
        · rename_i hfi
          obtain ⟨s, h1, h2⟩ := rd_spec h ht
          split at h1
          · rename_i k o
            refine ⟨_, h1, fun hx => ?_⟩
            obtain ⟨b, hb1, hb2⟩ := h2 hx
            refine ⟨.pointer (some ⟨b.b, o + off, none⟩), ⟨b, hb1, rfl⟩, fun w _ => ?_⟩
            simp only [execOp, hb2, Sem.run_bind, fieldAt_run hT hi rfl hf hfi rfl, addr_add]
            rfl
          · refine ⟨_, h1, fun hx => ⟨_, rfl, fun w _ => ?_⟩⟩
            have := h2 hx
            simp only [RelSV] at this
            simp only [execOp, this, Sem.run_bind, fieldAt_run hT hi rfl hf hfi rfl]
            rfl
          · exact h1.elim
        · exact h.elim
      · exact h.elim
    · exact h.elim
end
end Go.Vc

namespace Go.Vc
section
variable {P : Program} {tab : Tab} {b : Base} {st : St} {a : Act} {n : Nat}

def WR (b : Base) (st : St) (w aw : World) : Prop := Fr (fun k => orEq k (allB b st)) w aw ∧ (st.dirty = false → aw = w)

theorem allLt_spec {w : World} {K : Prop} : ∀ {bs : List Bx}, allLt w bs K → (∀ x ∈ bs, x.b < w.heap.size) → K
  | [], h, _ => h
  | x :: xs, h, hl => allLt_spec (h (hl x (List.mem_cons_self ..))) fun y hy => hl y (List.mem_cons_of_mem _ hy)

theorem sync_spec {w aw : World} {F : World → Prop} (h : sync b st w F) (hw : WR b st w aw) (hl : ∀ x ∈ allB b st, x.b < aw.heap.size) : F aw := by
  unfold sync at h
  cases hd : st.dirty with
  | false => simp only [hd] at h; rw [hw.2 hd]; exact h
  | true => simp only [hd] at h; exact allLt_spec (h aw hw.1) hl

theorem find_cons (k k' : Key) (e : Ent) (r : Env) : find k ((k', e) :: r) = if k' = k then e else find k r := by
  obtain ⟨x, y⟩ := k
  obtain ⟨x', y'⟩ := k'
  simp only [find]
  by_cases h : (x', y') = (x, y)
  · cases h
    simp [keyEq]
  · rw [if_neg h]
    have : keyEq (x', y') (x, y) = false := by
      cases hk : keyEq (x', y') (x, y) with
      | false => rfl
      | true =>
        simp only [keyEq, Bool.and_eq_true] at hk
        exact absurd (by rw [Nat.eq_of_beq_eq_true hk.1, Nat.eq_of_beq_eq_true hk.2]) h
    rw [this]

theorem find_append_left {k : Key} {r : Env} : ∀ {l : Env}, (∀ p ∈ l, p.1 ≠ k) → find k (l ++ r) = find k r
  | [], _ => rfl
  | (k', e) :: l, h => by
    rw [List.cons_append, find_cons, if_neg (h _ (List.mem_cons_self ..))]
    exact find_append_left fun p hp => h p (List.mem_cons_of_mem _ hp)

theorem find_cellEnts {k : Nat} {x : Option Bool} {r : Env} : ∀ {vs : List Value} {i off : Nat}, i ≤ off → off < i + vs.length → find (k, off) (cellEnts k x i vs ++ r) = ⟨x, .v (vs.getD (off - i) undef)⟩
  | [], i, off, h1, h2 => by simp at h2; omega
  | v :: vs, i, off, h1, h2 => by
    simp only [cellEnts, List.cons_append, find_cons]
    by_cases he : i = off
    · subst he; simp
    · rw [if_neg (by simpa using he)]
      rw [find_cellEnts (by omega) (by simp only [List.length_cons] at h2; omega)]
      rw [show off - i = (off - (i + 1)) + 1 from by omega]
      simp

theorem cellEnts_key {k : Nat} {x : Option Bool} : ∀ {vs : List Value} {i : Nat} {p}, p ∈ cellEnts k x i vs → p.1.1 = k ∧ i ≤ p.1.2 ∧ p.1.2 < i + vs.length
  | v :: vs, i, p, h => by
    simp only [cellEnts, List.mem_cons] at h
    rcases h with rfl | h
    · simp
    · have := cellEnts_key h
      simp only [List.length_cons]
      omega

theorem find_cellEnts_other {k : Nat} {x : Option Bool} {r : Env} {vs : List Value} {i : Nat} {key : Key} (h : key.1 = k → key.2 < i ∨ i + vs.length ≤ key.2) : find key (cellEnts k x i vs ++ r) = find key r :=
  find_append_left fun p hp he => by
    have := cellEnts_key hp
    rw [he] at this
    rcases h this.1 with h' | h' <;> omega

theorem getD_set {xs : Array Value} {i j : Nat} {v : Value} (hi : i < xs.size) : (xs.setIfInBounds i v).getD j undef = if i = j then v else xs.getD j undef := by
  simp only [Array.getD_eq_getD_getElem?, Array.getElem?_setIfInBounds]
  by_cases h : i = j
  · subst h; simp [hi]
  · simp [h]

theorem Sim.put {env : Env} {bs : List Bx} {w : World} (hs : Sim n env bs a w) {d : Option Tmp} {e : Ent} {v : Value} (hd : ∀ t, d = some t → t < n) (hv : RelE bs e v) :
    Sim n (putE env d e) bs (a.put d v) w := by
  cases d with
  | none => exact hs
  | some t =>
    refine ⟨hs.defers, by simp [Act.put, hs.size], fun t' => ?_, ?_, hs.blocks, hs.ids⟩
    · simp only [Act.put, putE]
      rw [getD_set (by rw [hs.size]; exact hd t rfl), find_cons]
      by_cases h : t = t'
      · subst h; simpa using hv
      · rw [if_neg (by simpa using h), if_neg h]; exact hs.tmp t'
    · intro x hx
      obtain ⟨cells, T, h1, h2, h3⟩ := hs.box x hx
      refine ⟨cells, T, h1, h2, fun off ho => ?_⟩
      simp only [putE]
      rw [find_cons, if_neg (by simp)]
      exact h3 off ho

theorem allE_setE (b : Base) (st : St) (d : Option Tmp) (e : Ent) : allE b (setE st d e) = putE (allE b st) d e := by
  cases d <;> rfl
theorem allB_setE (b : Base) (st : St) (d : Option Tmp) (e : Ent) : allB b (setE st d e) = allB b st := by cases d <;> rfl
theorem dirty_setE (st : St) (d : Option Tmp) (e : Ent) : (setE st d e).dirty = st.dirty := by cases d <;> rfl
theorem nb_setE (st : St) (d : Option Tmp) (e : Ent) : (setE st d e).nb = st.nb := by cases d <;> rfl

theorem Sim.setE {w : World} (hs : Sim n (allE b st) (allB b st) a w) {d : Option Tmp} {e : Ent} {v : Value} (hd : ∀ t, d = some t → t < n) (hv : RelE (allB b st) e v) :
    Sim n (allE b (setE st d e)) (allB b (setE st d e)) (a.put d v) w := by
  rw [allE_setE, allB_setE]
  exact hs.put hd hv

theorem WR.setE {w aw : World} (h : WR b st w aw) (d : Option Tmp) (e : Ent) : WR b (setE st d e) w aw := by
  unfold WR at *
  rw [allB_setE, dirty_setE]
  exact h

theorem BoxOk.same {env : Env} {bs : List Bx} {w w' : World} (h : BoxOk env bs w) (hw : ∀ x ∈ bs, w'.heap[x.b]? = w.heap[x.b]?) : BoxOk env bs w' := by
  intro x hx
  obtain ⟨cells, T, h1, h2⟩ := h x hx
  exact ⟨cells, T, (hw x hx).trans h1, h2⟩

theorem Sim.same {env : Env} {bs : List Bx} {w w' : World} (h : Sim n env bs a w) (hw : ∀ x ∈ bs, w'.heap[x.b]? = w.heap[x.b]?) : Sim n env bs a w' :=
  ⟨h.defers, h.size, h.tmp, h.box.same hw, h.blocks, h.ids⟩

theorem presv_spec {w w' : World} {K : Prop} : ∀ {bs : List Bx}, presv w w' bs K → (∀ x ∈ bs, x.b < w.heap.size) → (∀ x ∈ bs, w'.heap[x.b]? = w.heap[x.b]?) ∧ K
  | [], h, _ => ⟨fun _ hx => (by cases hx), h⟩
  | x :: xs, h, hl => by
    obtain ⟨h1, h2⟩ := h
    obtain ⟨h3, h4⟩ := presv_spec h2 fun y hy => hl y (List.mem_cons_of_mem _ hy)
    refine ⟨fun y hy => ?_, h4⟩
    rcases List.mem_cons.1 hy with rfl | hy
    · exact h1 (hl _ (List.mem_cons_self ..))
    · exact h3 y hy

theorem orEq_mem {k : Nat} : ∀ {bs : List Bx}, orEq k bs ↔ ∃ x ∈ bs, k = x.b
  | [] => by simp [orEq]
  | [x] => by simp [orEq]
  | x :: y :: r => by
    have := orEq_mem (k := k) (bs := y :: r)
    simp only [orEq] at this ⊢
    rw [this]
    simp

theorem allNe_spec {k : Nat} {K : Prop} : ∀ {bs : List Bx}, allNe k bs K → (∀ x ∈ bs, k ≠ x.b) → K
  | [], h, _ => h
  | x :: xs, h, hk => allNe_spec (h (hk x (List.mem_cons_self ..))) fun y hy => hk y (List.mem_cons_of_mem _ hy)

theorem andNe_spec {k : Nat} {K : Prop} : ∀ {bs : List Bx}, andNe k bs K → (∀ x ∈ bs, k ≠ x.b) ∧ K
  | [], h => ⟨fun _ hx => (by cases hx), h⟩
  | x :: xs, h => by
    obtain ⟨h1, h2⟩ := h
    obtain ⟨h3, h4⟩ := andNe_spec h2
    refine ⟨fun y hy => ?_, h4⟩
    rcases List.mem_cons.1 hy with rfl | hy
    · exact h1
    · exact h3 y hy

theorem exK_spec {F : Value → Prop} : ∀ {k : Kd}, exK k F → ∃ v, F v
  | .int _, ⟨_, h⟩ => ⟨_, h⟩
  | .bool, ⟨n, h⟩ => ⟨_, h⟩
  | .str, ⟨n, h⟩ => ⟨_, h⟩
  | .ptr, ⟨n, h⟩ => ⟨_, h⟩
  | .slice, ⟨a, l, c, h⟩ => ⟨_, h⟩
  | .val, ⟨n, h⟩ => ⟨_, h⟩

theorem exL_spec : ∀ {ks : List Kd} {F : List Value → Prop}, exL ks F → ∃ v, F v
  | [], _, h => ⟨_, h⟩
  | k :: ks, F, h => by
    obtain ⟨v, h⟩ := exK_spec h
    obtain ⟨vs, h⟩ := exL_spec h
    exact ⟨_, h⟩

theorem valK_spec {i : TI} {F : Value → Prop} (h : valK i F) : ∃ v, F v := by
  unfold valK at h
  split at h
  · obtain ⟨v, h⟩ := exL_spec h; exact ⟨_, h⟩
  · exact exK_spec h

theorem valsK_spec : ∀ {ts : List TypeId} {F : List Value → Prop}, valsK tab ts F → ∃ v, F v
  | [], _, h => ⟨_, h⟩
  | t :: ts, F, h => by
    simp only [valsK] at h
    split at h
    · obtain ⟨v, h⟩ := valK_spec h
      obtain ⟨vs, h⟩ := valsK_spec h
      exact ⟨_, h⟩
    · exact h.elim

theorem resK_spec {t : TypeId} {F : Value → Prop} (h : resK tab t F) : ∃ v, F v := by
  unfold resK at h
  split at h
  · obtain ⟨v, h⟩ := valsK_spec h; exact ⟨_, h⟩
  · exact valK_spec h
  · exact h.elim

theorem Sim.lt {env : Env} {bs : List Bx} {w : World} (h : Sim n env bs a w) {x : Bx} (hx : x ∈ bs) : x.b < w.heap.size := by
  obtain ⟨cells, T, h1, _⟩ := h.box x hx
  exact (Array.getElem?_eq_some_iff.1 h1).1

theorem hasId_false {k : Nat} : ∀ {bs : List Bx}, hasId k bs = false → ∀ x ∈ bs, x.id ≠ k
  | y :: r, h, x, hx => by
    unfold hasId at h
    split at h
    · cases h
    · rename_i hb
      rcases List.mem_cons.1 hx with rfl | hx
      · intro he; rw [he, Nat.beq_refl] at hb; cases hb
      · exact hasId_false h x hx

theorem findBx_none {k : Nat} {bs : List Bx} (h : hasId k bs = false) : findBx k bs = none := by
  cases hf : findBx k bs with
  | none => rfl
  | some x => exact absurd (mem_findBx hf).2 (hasId_false h x (mem_findBx hf).1)

theorem RelSV.new {bs : List Bx} {x : Bx} (h : hasId x.id bs = false) {s : SV} {v : Value} (hr : RelSV bs s v) : RelSV (x :: bs) s v := by
  cases s with
  | v u => exact hr
  | junk => trivial
  | bx k off =>
    obtain ⟨y, h1, h2⟩ := hr
    refine ⟨y, ?_, h2⟩
    unfold findBx
    have : Nat.beq x.id k = false := by
      cases hb : Nat.beq x.id k with
      | false => rfl
      | true => rw [Nat.eq_of_beq_eq_true hb] at h; rw [findBx_none h] at h1; cases h1
    simp only [this]
    exact h1

theorem RelE.new {bs : List Bx} {x : Bx} (h : hasId x.id bs = false) {e : Ent} {v : Value} (hr : RelE bs e v) : RelE (x :: bs) e v := ⟨fun hx => (hr.1 hx).new h, hr.2⟩

/-- A new hidden variable. -/
theorem Sim.newBox {env : Env} {bs : List Bx} {aw : World} (hs : Sim n env bs a aw) {k : Nat} (hk : hasId k bs = false) (hkn : k < n) (cells : List Value) (T : TypeId) :
    Sim n (((0, k), ⟨none, .bx k 0⟩) :: (cellEnts (k + 1) none 0 cells ++ env)) (⟨k, aw.heap.size, cells.length⟩ :: bs) (a.put (some k) (.pointer (some ⟨aw.heap.size, 0, none⟩))) (aw.alloc (.cells cells.toArray T)) := by
  have hself : findBx k (⟨k, aw.heap.size, cells.length⟩ :: bs) = some ⟨k, aw.heap.size, cells.length⟩ := by simp [findBx]
  have hold : ∀ j, j < aw.heap.size → (aw.alloc (.cells cells.toArray T)).heap[j]? = aw.heap[j]? := fun j hj => by
    show (aw.heap.push _)[j]? = _
    rw [Array.getElem?_push, if_neg (by omega)]
  refine ⟨hs.defers, by simp [Act.put, hs.size], fun t => ?_, ?_, ?_, ?_⟩
  · simp only [Act.put]
    rw [getD_set (by rw [hs.size]; exact hkn), find_cons]
    by_cases h : k = t
    · subst h
      rw [if_pos rfl, if_pos rfl]
      exact RelE.of ⟨_, hself, rfl⟩
    · rw [if_neg (by simpa using h), if_neg h, find_cellEnts_other (by simp)]
      exact (hs.tmp t).new hk
  · intro x hx
    rcases List.mem_cons.1 hx with rfl | hx
    · refine ⟨cells.toArray, T, ?_, by simp, fun off ho => ?_⟩
      · show (aw.heap.push _)[aw.heap.size]? = _
        simp
      · rw [find_cons, if_neg (by simp), find_cellEnts (Nat.zero_le _) (by simpa using ho)]
        have e : cells.toArray.getD off undef = cells.getD (off - 0) undef := by simp
        rw [e]; exact RelE.v
    · obtain ⟨cs, T', h1, h2, h3⟩ := hs.box x hx
      refine ⟨cs, T', (hold _ (hs.lt hx)).trans h1, h2, fun off ho => ?_⟩
      have hne := hasId_false hk x hx
      rw [find_cons, if_neg (by simp), find_cellEnts_other (by intro h; simp at h; exact absurd h hne)]
      exact (h3 off ho).new hk
  · simp only [List.map_cons, List.nodup_cons, List.mem_map, not_exists, not_and]
    exact ⟨fun x hx he => by have := hs.lt hx; omega, hs.blocks⟩
  · simp only [List.map_cons, List.nodup_cons, List.mem_map, not_exists, not_and]
    exact ⟨fun x hx he => hasId_false hk x hx he, hs.ids⟩

/-- A block that is new and seen. -/
theorem alloc_same {bs : List Bx} {env : Env} {aw : World} (hs : Sim n env bs a aw) (o : Obj) : ∀ x ∈ bs, (aw.alloc o).heap[x.b]? = aw.heap[x.b]? := fun x hx => by
  have := hs.lt hx
  show (aw.heap.push _)[x.b]? = _
  rw [Array.getElem?_push, if_neg (by omega)]

theorem Fr.alloc {M : Nat → Prop} {w aw : World} (h : Fr M w aw) (o : Obj) : Fr M w (aw.alloc o) :=
  ⟨h.os, h.tape, h.output, Nat.le_trans h.size (by show aw.heap.size ≤ (aw.heap.push o).size; simp), fun k hk hn => by
    rw [← h.keep k hk hn]
    show (aw.heap.push _)[k]? = _
    have := h.size
    rw [Array.getElem?_push, if_neg (by omega)]⟩

theorem WR.clean (aw : World) : WR b (clean st) aw aw := ⟨Fr.refl _ _, fun _ => rfl⟩

end
end Go.Vc

namespace Go.Vc
section
variable {P : Program} {tab : Tab} {b : Base} {st : St} {a : Act} {n : Nat} {okF : FuncId → Bool}

/-- What an operation leaves. -/
def OpPost (b : Base) (st : St) (o : Oper) (n : Nat) (aw : World) (K : Bool → St → World → Prop) (a' : Act) (aw' : World) : Prop :=
  ∃ ch st' w', K ch st' w' ∧ Sim n (allE b st') (allB b st') a' aw' ∧ WR b st' w' aw' ∧ (∃ l, st'.nb = l ++ st.nb ∧ ∀ y ∈ l, aw.heap.size ≤ y.b) ∧
    (∀ y ∈ allB b st, stBox (allE b st) o.op ≠ some y.id → aw'.heap[y.b]? = aw.heap[y.b]?) ∧
    (ch = false → Fr (fun k => ∃ y ∈ allB b st, stBox (allE b st) o.op = some y.id ∧ k = y.b) aw aw') ∧ (ch = true → aw' = w')

theorem wp_value {o : Oper} {aw aw' : World} {v : Value} {K' : Act → World → Prop} {Q : Exit → Act → World → Prop} (h : (execOp a.eval o).run P aw = .ok (.value v) aw') (hk : K' (a.put o.dst v) aw') : o.wp P a aw K' Q := by
  simp only [Oper.wp, h, Oper.upon]; exact hk
theorem wp_skip' {o : Oper} {aw aw' : World} {K' : Act → World → Prop} {Q : Exit → Act → World → Prop} (h : (execOp a.eval o).run P aw = .ok .skip aw') (hk : K' (a.put o.dst undef) aw') : o.wp P a aw K' Q := by
  simp only [Oper.wp, h, Oper.upon]; exact hk

/-- The end of an operation that may have turned memory that is seen. -/
theorem OpPost.seen {o : Oper} {aw aw' : World} {K : Bool → St → World → Prop} {e : Ent} {v : Value} {ch : Bool} (hk : K ch (setE (clean st) o.dst e) aw') (hs : Sim n (allE b st) (allB b st) a aw)
    (hd : ∀ t, o.dst = some t → t < n) (hv : RelE (allB b st) e v) (hw : ∀ x ∈ allB b st, aw'.heap[x.b]? = aw.heap[x.b]?) (hc : ch = false → aw' = aw) : OpPost b st o n aw K (a.put o.dst v) aw' := by
  refine ⟨ch, _, aw', hk, Sim.setE (st := clean st) (hs.same hw) hd hv, (WR.clean (st := st) aw').setE _ _, ⟨[], by simp [nb_setE, clean], fun _ h => (by cases h)⟩, fun y hy _ => hw y hy, fun h => ?_, fun _ => rfl⟩
  rw [hc h]; exact Fr.refl _ _

theorem semV_exec {o : Oper} {vs : List Value} {s : Sem Value} (h : semV o.op o.type vs = some s) (hv : (semOps o.op).map a.eval = vs) (w : World) :
    (execOp a.eval o).run P w = (s.run P w).andThen fun v w' => .ok (.value v) w' := by
  obtain ⟨dst, op, ty, pos, after, guard⟩ := o
  subst hv
  dsimp only at h ⊢
  cases op <;> simp only [semOps, List.map_cons, List.map_nil, semV, Option.some.injEq, reduceCtorEq] at h <;> try (subst h; simp [execOp]; done)
  case binOp op t x y u => subst h; exact Sem.run_bind P w _ _
  case makeMap t r =>
    cases r with
    | none => simp only [semV, Option.some.injEq] at h; subst h; simp [execOp]
    | some r => cases h
  case slice t x lo hi mx =>
    cases lo <;> cases hi <;> cases mx <;> simp only [Option.toList, List.nil_append, List.cons_append, List.map_cons, List.map_nil, semV, Option.some.injEq, reduceCtorEq] at h <;> (subst h; simp [execOp])
  case call c =>
    obtain ⟨callee, as, ts⟩ := c
    have e : (as.toList.map a.eval).toArray = as.map a.eval := Array.ext' (by simp)
    cases callee with
    | value f => cases h
    | invoke r m => cases h
    | builtin bt => cases bt <;> simp only [semV, Option.some.injEq, reduceCtorEq] at h <;> (subst h; simp [execOp, resolve, invoke, builtin, e])

theorem semU_exec {o : Oper} {vs : List Value} {s : Sem Unit} (h : semU o.op vs = some s) (hv : (semOps o.op).map a.eval = vs) (w : World) :
    (execOp a.eval o).run P w = (s.run P w).andThen fun _ w' => .ok .skip w' := by
  obtain ⟨dst, op, ty, pos, after, guard⟩ := o
  subst hv
  dsimp only at h ⊢
  cases op <;> simp only [semOps, List.map_cons, List.map_nil, semU, Option.some.injEq, reduceCtorEq] at h <;> (subst h; simp [execOp])

theorem loadL_spec {w : World} {ad : Addr} : ∀ {ks : List Kd} {i : Nat} {F : List Value → Prop}, loadL w ad i ks F → ∃ vs, F vs ∧ vs.length = ks.length ∧ ∀ j, j < ks.length → w.cell? (ad.add (i + j)) = some (vs.getD j undef)
  | [], i, F, h => ⟨[], h, rfl, fun j hj => by simp at hj⟩
  | k :: ks, i, F, h => by
    obtain ⟨v, h1, h2⟩ := exK_spec h
    obtain ⟨vs, h3, h4, h5⟩ := loadL_spec h2
    refine ⟨v :: vs, h3, by simp [h4], fun j hj => ?_⟩
    cases j with
    | zero => simpa using h1
    | succ j =>
      have := h5 j (by simpa using hj)
      rw [show i + (j + 1) = i + 1 + j from by omega, this]
      simp

theorem loadVc_spec (hT : TabOk P tab) {t : TypeId} {i : TI} (hi : tab t = some i) {w : World} {ad : Addr} {F : Value → Prop} (h : loadVc i w ad F) :
    ∃ v, F v ∧ ∀ w', (∀ j u, w.cell? (ad.add j) = some u → w'.cell? (ad.add j) = some u) → (Instr.loadAt t (.pointer (some ad))).run P w' = .ok v w' := by
  unfold loadVc at h
  split at h
  · rename_i hagg
    split at h
    · rename_i hl
      have hl := Nat.eq_of_beq_eq_true hl
      obtain ⟨vs, h1, h2, h3⟩ := loadL_spec h
      refine ⟨_, h1, fun w' hw => ?_⟩
      have := loadCellsFrom_run (P := P) (w := w') (ad := ad) i.size 0 #[] vs (by omega) (fun j hj => hw _ _ (h3 j (by omega)))
      simp [Instr.loadAt, Instr.sureAddr, loadVar, isAgg_run hT hi, hagg, run_size hT hi, loadCells, this]
    · exact h.elim
  · rename_i hagg
    obtain ⟨v, h1, h2⟩ := exK_spec h
    refine ⟨v, h2, fun w' hw => ?_⟩
    have := hw 0 v (by rw [show ad.add 0 = ad from rfl]; exact h1)
    rw [show ad.add 0 = ad from rfl] at this
    simp [Instr.loadAt, Instr.sureAddr, loadVar, isAgg_run hT hi, hagg, this]

theorem oneK_spec {m : Nat} {v : Value} {K : Prop} (h : oneK m v K) : v.oneCell' = true ∧ K := by
  unfold oneK at h
  split at h
  · exact h
  · cases v <;> first | exact h.elim | exact ⟨rfl, h⟩

theorem oneL_spec {m : Nat} {K : Prop} : ∀ {vs : List Value}, oneL m vs K → (∀ v ∈ vs, v.oneCell' = true) ∧ K
  | [], h => ⟨fun _ hv => (by cases hv), h⟩
  | v :: vs, h => by
    obtain ⟨h1, h2⟩ := oneK_spec h
    obtain ⟨h3, h4⟩ := oneL_spec h2
    refine ⟨fun u hu => ?_, h4⟩
    rcases List.mem_cons.1 hu with rfl | hu
    · exact h1
    · exact h3 u hu

/-- The heap's other blocks, and everything else, behind a store. -/
theorem Fr.setCell (w : World) (ad : Addr) (v : Value) : Fr (fun k => k = ad.block) w (w.setCell ad v) :=
  ⟨rfl, rfl, rfl, by simp [World.setCell], fun k hk hn => by
    simp only [World.setCell, Array.getElem?_modify]
    rw [if_neg (fun e => hn e.symm)]⟩

theorem add_block (ad : Addr) (i : Nat) : (ad.add i).block = ad.block := by unfold Addr.add; split <;> rfl

theorem storeL_spec {ad : Addr} : ∀ {vs : List Value} {i : Nat} {w : World} {F : World → Prop}, storeL ad i vs w F → (∀ v ∈ vs, v.oneCell' = true) →
    ∃ w', F w' ∧ (storeCells ad vs i).run P w = .ok () w' ∧ Fr (fun k => k = ad.block) w w'
  | [], i, w, F, h, _ => ⟨w, h, rfl, Fr.refl _ _⟩
  | v :: vs, i, w, F, h, ho => by
    obtain ⟨h1, h2, h3⟩ := h
    obtain ⟨u, hu⟩ := Option.isSome_iff_exists.1 h1
    obtain ⟨w', h4, h5, h6⟩ := storeL_spec h3 (fun x hx => ho x (List.mem_cons_of_mem _ hx))
    refine ⟨w', h4, ?_, ?_⟩
    · simp only [storeCells, Sem.run_bind, run_store P w (ad.add i) v .plain (ho v (List.mem_cons_self ..)), hu, h2]
      simp [h5]
    · have := Fr.setCell w (ad.add i) v
      rw [add_block] at this
      exact this.trans h6 (fun _ _ h => h) (fun _ _ h => h)

theorem zeros_eq (z : List Value) (s : Nat) (hz : z.length = s) (len : Nat) :
    ((Array.range (len * s)).map fun i => ((if len * s = 0 then #[] else z.toArray : Array Value))[i % (if len * s = 0 then #[] else z.toArray : Array Value).size]!) = (List.replicate len z).flatten.toArray := by
  by_cases h0 : len * s = 0
  · rw [if_pos h0, h0]
    rcases Nat.mul_eq_zero.1 h0 with h | h
    · subst h; simp
    · have : z = [] := by cases z <;> simp_all
      subst this
      simp
  · simp only [if_neg h0]
    have hs : 0 < s := by rcases Nat.eq_zero_or_pos s with h | h; · subst h; simp at h0
                          · exact h
    apply Array.ext'
    simp only [Array.toList_map, Array.toList_range, List.size_toArray, hz]
    clear h0
    induction len with
    | zero => simp
    | succ k ih =>
      rw [List.replicate_succ', List.flatten_append, ← ih, Nat.succ_mul, List.range_add, List.map_append, List.map_map]
      congr 1
      simp only [List.flatten_cons, List.flatten_nil, List.append_nil]
      apply List.ext_getElem
      · simp [hz]
      · intro i h1 h2
        simp only [List.getElem_map, List.getElem_range, Function.comp]
        have hi : i < s := by simpa using h1
        rw [show (k * s + i) % s = i from by rw [Nat.mul_comm, Nat.mul_add_mod]; exact Nat.mod_eq_of_lt hi]
        simp [hz, hi]


theorem frame_of_setBox {w w' : World} {bb : Nat} (h : Fr (fun k => k = bb) w w') {bs : List Bx} (hn : ∀ x ∈ bs, bb ≠ x.b) (hl : ∀ x ∈ bs, x.b < w.heap.size) : ∀ x ∈ bs, w'.heap[x.b]? = w.heap[x.b]? :=
  fun x hx => h.keep _ (hl x hx) fun e => hn x hx e.symm

theorem nodup_inj {x y : Bx} : ∀ {bs : List Bx}, (bs.map (·.b)).Nodup → y ∈ bs → x ∈ bs → y.b = x.b → y = x
  | z :: r, hn, hy, hx, h => by
    simp only [List.map_cons, List.nodup_cons, List.mem_map, not_exists, not_and] at hn
    rcases List.mem_cons.1 hx with hx1 | hx1 <;> rcases List.mem_cons.1 hy with hy1 | hy1
    · rw [hx1, hy1]
    · subst hx1; exact absurd h (hn.1 y hy1)
    · subst hy1; exact absurd h.symm (hn.1 x hx1)
    · exact nodup_inj hn.2 hy1 hx1 h

/-- A store into a hidden variable. -/
theorem storeBox {env : Env} {bs : List Bx} {aw : World} (hs : Sim n env bs a aw) {x : Bx} (hx : x ∈ bs) {vs : List Value} (ho : ∀ v ∈ vs, v.oneCell' = true) {off : Nat} (hl : off + vs.length ≤ x.n) :
    ∃ aw', (storeCells ⟨x.b, off, none⟩ vs 0).run P aw = .ok () aw' ∧ Fr (fun k => k = x.b) aw aw' ∧ Sim n (cellEnts (x.id + 1) none off vs ++ env) bs a aw' := by
  obtain ⟨cells, T, h1, h2, h3⟩ := hs.box x hx
  -- the cells, one by one
  have key : ∀ (vs : List Value) (i : Nat) (w : World) (cs : Array Value), (∀ v ∈ vs, v.oneCell' = true) → w.heap[x.b]? = some (.cells cs T (0, 0)) → off + i + vs.length ≤ cs.size →
      ∃ w' cs', (storeCells ⟨x.b, off, none⟩ vs i).run P w = .ok () w' ∧ Fr (fun k => k = x.b) w w' ∧ w'.heap[x.b]? = some (.cells cs' T (0, 0)) ∧ cs'.size = cs.size ∧
        ∀ j, cs'.getD j undef = if off + i ≤ j ∧ j < off + i + vs.length then vs.getD (j - (off + i)) undef else cs.getD j undef := by
    intro vs
    induction vs with
    | nil =>
      intro i w cs _ hh _
      exact ⟨w, cs, rfl, Fr.refl _ _, hh, rfl, fun j => by rw [if_neg (by simp)]⟩
    | cons v vs ih =>
      intro i w cs ho hh hl
      simp only [List.length_cons] at hl
      have hc : w.cell? ⟨x.b, off + i, none⟩ = some (cs.getD (off + i) undef) := by
        simp only [World.cell?, hh]
        simp [show off + i < cs.size from by omega]
      have hfz : w.frozen? ⟨x.b, off + i, none⟩ = false := by simp [World.frozen?, hh]
      have hh' : (w.setCell ⟨x.b, off + i, none⟩ v).heap[x.b]? = some (.cells (cs.setIfInBounds (off + i) v) T (0, 0)) := by
        simp [World.setCell, Array.getElem?_modify, hh]
      obtain ⟨w', cs', h4, h5, h6, h7, h8⟩ := ih (i + 1) _ _ (fun u hu => ho u (List.mem_cons_of_mem _ hu)) hh' (by simp; omega)
      refine ⟨w', cs', ?_, (Fr.setCell w ⟨x.b, off + i, none⟩ v).trans h5 (fun _ _ h => h) (fun _ _ h => h), h6, by simpa using h7, fun j => ?_⟩
      · simp only [storeCells, Sem.run_bind, addr_add, run_store P w ⟨x.b, off + i, none⟩ v .plain (ho v (List.mem_cons_self ..)), hc, hfz]
        simp [h4]
      · rw [h8 j, getD_set (by omega)]
        simp only [List.length_cons]
        by_cases hj : off + i = j
        · subst hj
          rw [if_neg (by omega), if_pos rfl, if_pos (by omega)]
          simp
        · rw [if_neg hj]
          by_cases hj2 : off + (i + 1) ≤ j ∧ j < off + (i + 1) + vs.length
          · rw [if_pos hj2, if_pos (by omega)]
            rw [show j - (off + i) = (j - (off + (i + 1))) + 1 from by omega]
            simp
          · rw [if_neg hj2, if_neg (by omega)]
  obtain ⟨w', cs', k1, k2, k3, k4, k5⟩ := key vs 0 aw cells ho h1 (by omega)
  refine ⟨w', k1, k2, hs.defers, hs.size, fun t => ?_, ?_, hs.blocks, hs.ids⟩
  · rw [find_cellEnts_other (by simp)]; exact hs.tmp t
  · intro y hy
    by_cases hyx : y.b = x.b
    · have hyx' : y = x := nodup_inj hs.blocks hy hx hyx
      subst hyx'
      refine ⟨cs', T, k3, by omega, fun o hoy => ?_⟩
      rw [k5 o]
      by_cases hin : off + 0 ≤ o ∧ o < off + 0 + vs.length
      · rw [if_pos hin, find_cellEnts (by omega) (by omega)]
        have e : vs.getD (o - (off + 0)) undef = vs.getD (o - off) undef := by simp
        rw [e]; exact RelE.v
      · rw [if_neg hin, find_cellEnts_other (by intro _; simp; omega)]
        exact h3 o hoy
    · obtain ⟨cs2, T2, q1, q2, q3⟩ := hs.box y hy
      refine ⟨cs2, T2, (k2.keep _ (hs.lt hy) hyx).trans q1, q2, fun o hoy => ?_⟩
      have hid : y.id ≠ x.id := by
        intro he
        have f1 := findBx_mem hs.ids hx rfl
        have f2 := findBx_mem hs.ids hy he
        rw [f1] at f2
        cases f2
        exact hyx rfl
      rw [find_cellEnts_other (by intro h; simp at h; exact absurd h hid)]
      exact q3 o hoy
end
end Go.Vc

namespace Go.Vc
section
variable {P : Program} {tab : Tab} {b : Base} {st : St} {a : Act} {n : Nat} {okF : FuncId → Bool}

theorem WR.frame {w aw aw' : World} {M : Nat → Prop} (h : WR b st w aw) {st' : St} (hst : ∀ k, k < w.heap.size → orEq k (allB b st) → orEq k (allB b st')) (hd : st'.dirty = true) (hf : Fr M aw aw') (hM : ∀ k, k < w.heap.size → M k → orEq k (allB b st')) : WR b st' w aw' :=
  ⟨h.1.trans hf hst hM, fun h0 => by rw [hd] at h0; cases h0⟩

theorem call_sound (hF : ∀ f, okF f = true → Callee P f) {w : World} {o : Oper} {K : Bool → St → World → Prop} {f : FuncId} {args : List Value} (hd : ∀ t, o.dst = some t → t < n)
    {aw : World} (hs : Sim n (allE b st) (allB b st) a aw) (hw : WR b st w aw) (hok : okF f = true) (hnb : stBox (allE b st) o.op = none)
    (hrun : (execOp a.eval o).run P aw = (callFunc f args.toArray).run P aw) (h : callVc P tab b st f args o.type w o.dst fun st w => K true st w)
    {Q : Exit → Act → World → Prop} : o.wp P a aw (fun a' aw' => OpPost b st o n aw K a' aw') Q := by
  have h := sync_spec h hw fun x hx => hs.lt hx
  rw [hF f hok args.toArray aw] at hrun
  simp only [Oper.wp, hrun, Oper.upon]
  refine Calls.mono h fun e w' he => ?_
  obtain ⟨v, rfl, h1⟩ := resK_spec he
  obtain ⟨h2, h3⟩ := presv_spec h1 fun x hx => hs.lt hx
  exact OpPost.seen h3 hs hd RelE.v h2 (by simp)

theorem box_run {t : TypeId} {v : Value} (w : World) : (Instr.box t v).run P w = .ok (.pointer (some ⟨w.heap.size, 0, none⟩)) (w.alloc (.cells (cellsOf v).toArray t)) := by
  simp [Instr.box, newVar, newRow, cellsOf_eq]

theorem alloc_run (hT : TabOk P tab) {t : TypeId} {i : TI} (hi : tab t = some i) (w : World) : (Instr.alloc t true (.tuple #[])).run P w = .ok (.pointer (some ⟨w.heap.size, 0, none⟩)) (w.alloc (.cells i.zero.toArray t)) := by
  obtain ⟨z, h1, h2⟩ := run_zero hT hi
  simp [Instr.alloc, h2, newVar, newRow, h1]

theorem hidden_sound {w : World} {o : Oper} {K : Bool → St → World → Prop} {k : Nat} (hk : o.dst = some k) (hd : k < n) {aw : World} (hs : Sim n (allE b st) (allB b st) a aw) (hw : WR b st w aw)
    {cells : List Value} {t : TypeId} (hid : hasId k (allB b st) = false) (hnb : stBox (allE b st) o.op = none)
    (hrun : (execOp a.eval o).run P aw = .ok (.value (.pointer (some ⟨aw.heap.size, 0, none⟩))) (aw.alloc (.cells cells.toArray t)))
    (h : ∀ bb, w.heap.size ≤ bb → allNe bb (allB b st) (K false { env := ((0, k), ⟨none, .bx k 0⟩) :: (cellEnts (k + 1) none 0 cells ++ st.env), nb := ⟨k, bb, cells.length⟩ :: st.nb, dirty := true } w))
    {Q : Exit → Act → World → Prop} : o.wp P a aw (fun a' aw' => OpPost b st o n aw K a' aw') Q := by
  have h1 := allNe_spec (h aw.heap.size hw.1.size) fun x hx he => by have := hs.lt hx; omega
  refine wp_value hrun ?_
  have hsim := hs.newBox hid hd cells t
  rw [← hk] at hsim
  have hal : Fr (fun _ => False) aw (aw.alloc (.cells cells.toArray t)) := Fr.alloc (Fr.refl _ _) _
  refine ⟨false, _, w, h1, ?_, ?_, ⟨[⟨k, aw.heap.size, cells.length⟩], rfl, fun y hy => by rw [List.mem_singleton.1 hy]; exact Nat.le_refl _⟩, fun y hy _ => alloc_same hs _ y hy, fun _ => hal.mono fun _ _ h => h.elim, fun h => by cases h⟩
  · have : allE b { env := ((0, k), ⟨none, .bx k 0⟩) :: (cellEnts (k + 1) none 0 cells ++ st.env), nb := ⟨k, aw.heap.size, cells.length⟩ :: st.nb, dirty := true } = ((0, k), ⟨none, .bx k 0⟩) :: (cellEnts (k + 1) none 0 cells ++ allE b st) := by simp [allE]
    rw [this]
    exact hsim
  · refine hw.frame (fun k' _ h => ?_) rfl hal (fun _ _ h => h.elim)
    rw [orEq_mem] at h ⊢
    obtain ⟨x, hx, he⟩ := h
    exact ⟨x, List.mem_cons_of_mem _ hx, he⟩

theorem rd_tmp {env : Env} {bs : List Bx} {x : Option Bool} {y : Operand} {K : SV → Prop} (h : rd env x y K) (ht : TmpOk env bs a) : ∃ s, K s ∧ (xt x → RelSV bs s (a.eval y)) ∧ (∀ k off, s = .bx k off → ∃ t, y = .tmp t ∧ (find (0, t) env).s = .bx k off) := by
  cases y with
  | tmp t =>
    obtain ⟨s, h1, h2⟩ := rd_spec h ht
    refine ⟨(find (0, t) env).s, ?_, fun hx => (ht t).1 (need_self h hx), fun k off he => ⟨t, rfl, he⟩⟩
    dsimp only [rd, need] at h
    cases hx : (find (0, t) env).x with
    | none => rw [hx] at h; exact h
    | some y => rw [hx] at h; exact h.2
  | const v => exact ⟨_, h, fun _ => rfl, fun k off he => by cases he⟩
  | global g => exact ⟨_, h, fun _ => rfl, fun k off he => by cases he⟩
  | func f => exact ⟨_, h, fun _ => rfl, fun k off he => by cases he⟩

theorem opB_sound (hT : TabOk P tab) (hF : ∀ f, okF f = true → Callee P f) {w : World} {m : Nat} {o : Oper} {K : Bool → St → World → Prop} (h : opB P tab okF b st w m o.op o.type o.dst K) (hd : ∀ t, o.dst = some t → t < n)
    {aw : World} (hs : Sim n (allE b st) (allB b st) a aw) (hw : WR b st w aw) {Q : Exit → Act → World → Prop} : o.wp P a aw (fun a' aw' => OpPost b st o n aw K a' aw') Q := by
  unfold opB at h
  split at h
  · -- 8
    obtain ⟨s, h1, h2⟩ := pure_sound (P := P) hT h hs.tmp hs.box
    obtain ⟨v, h3, h4⟩ := h2 trivial
    refine wp_value (h4 aw fun _ _ _ => rfl) ?_
    exact ⟨false, _, w, h1, hs.setE hd (RelE.of h3), hw.setE _ _, ⟨[], by simp [nb_setE], fun _ h => (by cases h)⟩, fun _ _ _ => rfl, fun _ => Fr.refl _ _, fun h => by cases h⟩
  · -- 9
    obtain ⟨vs, h1, _, h2⟩ := rdL_spec h hs.tmp
    replace h2 := h2 trivial
    split at h1
    · rename_i s hsem
      obtain ⟨v, w', h3, h4⟩ := resK_spec (sync_spec h1 hw fun x hx => hs.lt hx)
      obtain ⟨h5, h6⟩ := presv_spec h4 fun x hx => hs.lt hx
      refine wp_value (by rw [semV_exec hsem h2, h3]; rfl) ?_
      exact OpPost.seen h6 hs hd RelE.v h5 (by simp)
    · split at h1
      · rename_i s hsem
        obtain ⟨w', h3, h4⟩ := sync_spec h1 hw fun x hx => hs.lt hx
        obtain ⟨h5, h6⟩ := presv_spec h4 fun x hx => hs.lt hx
        refine wp_skip' (by rw [semU_exec hsem h2, h3]; rfl) ?_
        exact OpPost.seen h6 hs hd RelE.junk h5 (by simp)
      · exact h1.elim
  · rename_i m _ _
    obtain ⟨dst, op, ty, pos, after, guard⟩ := o
    dsimp only at h hd
    split at h
    · -- box
      rename_i t y
      obtain ⟨v, h1, h2⟩ := rdV_spec h hs.tmp
      replace h2 := h2 trivial
      have hrun : (execOp a.eval ⟨dst, .box t y, ty, pos, after, guard⟩).run P aw = .ok (.value (.pointer (some ⟨aw.heap.size, 0, none⟩))) (aw.alloc (.cells (cellsOf v).toArray t)) := by
        simp only [execOp, h2, Sem.run_bind, box_run]; rfl
      split at h1
      · split at h1
        · rename_i k
          split at h1
          · rename_i hid
            exact hidden_sound rfl (hd k rfl) hs hw hid rfl hrun h1
          · exact h1.elim
        · exact h1.elim
      · refine wp_value hrun ?_
        exact OpPost.seen (sync_spec h1 hw (fun x hx => hs.lt hx) _ rfl) hs hd RelE.v (alloc_same hs _) (by simp)
    · -- alloc
      rename_i t
      split at h
      · rename_i i hi
        have hrun : (execOp a.eval ⟨dst, .alloc t, ty, pos, after, guard⟩).run P aw = .ok (.value (.pointer (some ⟨aw.heap.size, 0, none⟩))) (aw.alloc (.cells i.zero.toArray t)) := by
          simp only [execOp, Sem.run_bind, alloc_run hT hi]; rfl
        split at h
        · split at h
          · rename_i k
            split at h
            · rename_i hid
              exact hidden_sound rfl (hd k rfl) hs hw hid rfl hrun h
            · exact h.elim
          · exact h.elim
        · refine wp_value hrun ?_
          exact OpPost.seen (sync_spec h hw (fun x hx => hs.lt hx) _ rfl) hs hd RelE.v (alloc_same hs _) (by simp)
      · exact h.elim
    · -- buildSlice
      rename_i t len ps
      split at h
      · rename_i e _ _ _ _ _ hi
        split at h
        · rename_i ei hei
          obtain ⟨vs, h1, _, h2⟩ := rdL_spec h hs.tmp
          replace h2 := h2 trivial
          split at h1
          · rename_i cells hle hf
            replace hle := Nat.le_of_ble_eq_true hle
            have hu := run_under hT hi
            obtain ⟨z, hz1, hz2⟩ := run_zero hT hei
            have hzl : ei.zero.length = ei.size := (hT _ _ hei).2.choose_spec.2.2.2
            have hfill := fill_eq _ _ _ _ hf
            have hps : (ps.map fun (i, x) => (i, a.eval x)).toList = (ps.toList.map (·.1)).zip vs := by
              subst h2
              simp only [Array.toList_map, List.map_map]
              generalize ps.toList = l
              induction l with
              | nil => rfl
              | cons y r ih => simp only [List.map_cons, List.zip_cons_cons, ih]; rfl
            have hrun : (execOp a.eval ⟨dst, .buildSlice t len ps, ty, pos, after, guard⟩).run P aw = .ok (.value (.slice (some ⟨aw.heap.size, 0, none⟩) len len)) (aw.alloc (.cells cells.toArray e)) := by
              simp only [execOp, Instr.buildSlice, Sem.run_bind, hu, Result.andThen_ok, run_size hT hei]
              rw [if_neg (by omega)]
              have hz := zeros_eq _ _ hzl len
              by_cases h0 : len * ei.size = 0
              · rw [if_pos h0]
                simp only [if_pos h0] at hz
                simp only [Sem.run_bind, Sem.run_pure, Result.andThen_ok]
                rw [hps, hz, hfill]
                simp [newRow]
              · rw [if_neg h0]
                simp only [if_neg h0] at hz
                simp only [Sem.run_bind, Sem.run_pure, Result.andThen_ok, hz2, hz1]
                rw [hps, hz, hfill]
                simp [newRow]
            refine wp_value hrun ?_
            exact OpPost.seen (sync_spec h1 hw (fun x hx => hs.lt hx) _ rfl) hs hd RelE.v (alloc_same hs _) (by simp)
          · exact h1.elim
        · exact h.elim
      · exact h.elim
    · -- load
      rename_i t y
      obtain ⟨v, h1, h2⟩ := rdV_spec h hs.tmp
      replace h2 := h2 trivial
      split at h1
      · rename_i ad i hi
        obtain ⟨u, h3, h4⟩ := loadVc_spec (P := P) hT hi (sync_spec h1 hw fun x hx => hs.lt hx)
        refine wp_value (aw' := aw) (v := u) (by simp only [execOp, h2, Sem.run_bind, h4 aw fun _ _ h => h]; rfl) ?_
        exact OpPost.seen h3 hs hd RelE.v (fun _ _ => rfl) (fun _ => rfl)
      · exact h1.elim
    · -- store
      rename_i t y z
      obtain ⟨v, h1, h2⟩ := rdV_spec h hs.tmp
      replace h2 := h2 trivial
      split at h1
      · rename_i i hi
        split at h1
        · rename_i hlen
          replace hlen := Nat.eq_of_beq_eq_true hlen
          obtain ⟨hone, h1⟩ := oneL_spec h1
          obtain ⟨s, h3, h4, h4b⟩ := rd_tmp h1 hs.tmp
          replace h4 := h4 trivial
          have hst : ∀ ad aw', (storeCells ad (cellsOf v) 0).run P aw = .ok () aw' → a.eval y = .pointer (some ad) → (execOp a.eval ⟨dst, .store t y z, ty, pos, after, guard⟩).run P aw = .ok .skip aw' := by
            intro ad aw' hc he
            simp only [execOp, h2, he, Instr.storeAt, Instr.sureAddr, storeVar, Sem.run_bind, Sem.run_pure, Result.andThen_ok, run_size hT hi]
            rw [if_neg (by rw [cellsOf_eq]; simp [hlen])]
            simp only [cellsOf_eq, hc, Sem.run_bind, Sem.run_pure, Result.andThen_ok]
          split at h3
          · rename_i k off
            split at h3
            · rename_i bx hbx
              split at h3
              · rename_i hle
                replace hle := Nat.le_of_ble_eq_true hle
                obtain ⟨hmem, hid⟩ := mem_findBx hbx
                obtain ⟨aw', q1, q2, q3⟩ := storeBox (P := P) hs hmem hone hle
                obtain ⟨bx', hb', he⟩ := h4
                rw [hbx] at hb'; cases hb'
                refine wp_skip' (hst _ _ q1 he) ?_
                obtain ⟨ty', rfl, hty⟩ := h4b k off rfl
                have hsb : stBox (allE b st) (.store t (.tmp ty') z) = some k := by simp only [stBox, hty]
                refine ⟨false, _, w, h3, ?_, ?_, ⟨[], rfl, fun _ h => (by cases h)⟩, fun u hu hne => ?_, fun _ => ?_, fun h => by cases h⟩
                · have e : allE b { st with env := putE (cellEnts (k + 1) none off (cellsOf v) ++ st.env) dst ⟨none, .junk⟩, dirty := true } = putE (cellEnts (bx.id + 1) none off (cellsOf v) ++ allE b st) dst ⟨none, .junk⟩ := by
                    rw [hid]; cases dst <;> simp [allE, putE]
                  rw [e]
                  exact q3.put hd RelE.junk
                · refine hw.frame (fun _ _ h => h) rfl q2 (fun k' _ h => ?_)
                  rw [orEq_mem]
                  exact ⟨bx, hmem, h⟩
                · dsimp only at hne
                  rw [hsb] at hne
                  refine q2.keep _ (hs.lt hu) fun hub => hne ?_
                  rw [nodup_inj hs.blocks hu hmem hub, hid]
                · refine q2.mono fun k' _ hk' => ⟨bx, hmem, ?_, hk'⟩
                  dsimp only
                  rw [hsb, hid]
              · exact h3.elim
            · exact h3.elim
          · rename_i ad
            obtain ⟨h5, h6⟩ := andNe_spec h3
            obtain ⟨aw', q1, q2, q3⟩ := storeL_spec (P := P) (sync_spec h6 hw fun x hx => hs.lt hx) hone
            refine wp_skip' (hst _ _ q2 h4) ?_
            exact OpPost.seen q1 hs hd RelE.junk (frame_of_setBox q3 h5 fun x hx => hs.lt hx) (by simp)
          · exact h3.elim
        · exact h1.elim
      · exact h1.elim
    · -- call
      rename_i f as _
      split at h
      · rename_i hok
        obtain ⟨vs, h1, _, h2⟩ := rdL_spec h hs.tmp
        replace h2 := h2 trivial
        refine call_sound hF (o := ⟨dst, _, ty, pos, after, guard⟩) hd hs hw hok rfl ?_ h1
        have e : as.map a.eval = vs.toArray := Array.ext' (by rw [Array.toList_map]; exact h2)
        simp only [execOp, resolve, Deferred.ofValue, Act.eval, e, Sem.run_bind, Sem.run_pure, Result.andThen_ok, invoke]
        simp
      · exact h.elim
    · -- a function value
      rename_i g as _ _
      obtain ⟨vs, h1, _, h2⟩ := rdL_spec h hs.tmp
      obtain ⟨gv, h3, h4⟩ := rdV_spec h1 hs.tmp
      replace h2 := h2 trivial
      replace h4 := h4 trivial
      have e : as.map a.eval = vs.toArray := Array.ext' (by rw [Array.toList_map]; exact h2)
      have hrun : ∀ (f : FuncId) (u c : Array Value) (ts : Array TypeId), gv = .func (.func f) u c → (execOp a.eval ⟨dst, .call ⟨.value g, as, ts⟩, ty, pos, after, guard⟩).run P aw = (callFunc f (u.toList ++ (vs ++ c.toList)).toArray).run P aw := by
        intro f u c ts hg
        simp only [execOp, resolve, h4, hg, Deferred.ofValue, e, Sem.run_bind, Sem.run_pure, Result.andThen_ok, invoke]
        congr 2
        exact Array.ext' (by simp)
      split at h3
      · split at h3
        · split at h3
          · rename_i hok
            exact call_sound hF (o := ⟨dst, _, ty, pos, after, guard⟩) hd hs hw hok rfl (hrun _ _ _ _ rfl) h3
          · exact h3.elim
        · exact h3.elim
      · obtain ⟨f, u, c, hg, hok, h3⟩ := h3
        exact call_sound hF (o := ⟨dst, _, ty, pos, after, guard⟩) hd hs hw hok rfl (hrun _ _ _ _ hg) h3
    · exact h.elim
end
end Go.Vc

namespace Go.Vc
section
variable {P : Program} {tab : Tab} {b : Base} {a : Act} {n : Nat} {okF : FuncId → Bool}

/-- What stands behind a piece of code. -/
def After (n : Nat) (b : Base) (K : Nat → St → World → Prop) (a : Act) (aw : World) : Prop :=
  ∃ j st w, K j st w ∧ Sim n (allE b st) (allB b st) a aw ∧ WR b st w aw

def dstsOk (n : Nat) (ops : Array Oper) : Prop := ∀ (i : Nat) (o : Oper), ops[i]? = some o → ∀ t, o.dst = some t → t < n

theorem xt_some {b : Bool} : xt (some b) ↔ b = true := Iff.rfl

theorem guardX_spec {ops : Array Oper} {o : Oper} {env : Env} {bs : List Bx} {K : Option Bool → Prop} (h : guardX ops.toList o env K) (ht : TmpOk env bs a) :
    ∃ x, K x ∧ (Region.wanted o (yielded ops a.tmps) = true ↔ xt x) := by
  unfold guardX at h
  unfold Region.wanted
  cases hg : o.guard with
  | none => rw [hg] at h; exact ⟨none, h, by simp [xt]⟩
  | some jw =>
    obtain ⟨j, want⟩ := jw
    rw [hg] at h
    dsimp only at h ⊢
    split at h
    · exact h.elim
    · rename_i t hj
      have hj' : (ops[j]?).bind (·.dst) = some t := by simpa using hj
      split at h
      · rename_i y β he
        have hr := ht t
        rw [he] at hr
        have hget : ∀ v, a.tmps.getD t undef = .bool v → a.tmps[t]? = some (.bool v) := by
          intro v hv
          rw [Array.getD_eq_getD_getElem?] at hv
          cases hq : a.tmps[t]? with
          | none => rw [hq] at hv; cases hv
          | some u => rw [hq] at hv; simp at hv; rw [hv]
        have hyes : a.tmps.getD t undef = .bool β → (yielded ops a.tmps j == some want) = wantB want β := by
          intro hv
          simp only [yielded, hj', Option.bind_some, hget β hv]
          cases want <;> cases β <;> rfl
        cases y with
        | none =>
          have hv := hr.1 trivial
          exact ⟨_, h, by rw [hyes hv]; rfl⟩
        | some y =>
          refine ⟨_, h, ?_⟩
          cases y with
          | true =>
            have hv := hr.1 rfl
            rw [hyes hv, Bool.true_and]; rfl
          | false =>
            have hv := hr.2 rfl
            have : yielded ops a.tmps j = none := by
              simp only [yielded, hj', Option.bind_some]
              rw [Array.getD_eq_getD_getElem?] at hv
              cases hq : a.tmps[t]? with
              | none => rfl
              | some u => rw [hq] at hv; simp at hv; rw [hv]; rfl
            rw [this]
            simp [xt]
      · exact h.elim

theorem pX_spec {m : Nat} {x : Option Bool} {K : Option Bool → Nat → Prop} (h : pX m x K) : ∃ x' m', K x' m' ∧ (xt x ↔ xt x') := by
  unfold pX at h
  split at h
  · split at h
    · exact ⟨_, _, h, Iff.rfl⟩
    · exact ⟨_, _, h, by simp [xt]⟩
    · exact h.elim
  · split at h
    · exact ⟨_, _, h, Iff.rfl⟩
    · exact ⟨_, _, h, by simp [xt]⟩
    · exact h.elim
  · exact ⟨_, _, h, Iff.rfl⟩

theorem splitT_cases {st : St} {t : Tmp} {yes no : St → Prop} (h : splitT b st t yes no) {aw w : World} (hs : Sim n (allE b st) (allB b st) a aw) (hw : WR b st w aw) {C : Prop}
    (hy : ∀ st', yes st' → Sim n (allE b st') (allB b st') a aw → WR b st' w aw → st'.nb = st.nb → C) (hn : ∀ st', no st' → Sim n (allE b st') (allB b st') a aw → WR b st' w aw → st'.nb = st.nb → C) : C := by
  unfold splitT at h
  split at h
  · rename_i β he
    have hv := (hs.tmp t).1 (by rw [he]; trivial)
    rw [he] at hv
    have key : ∀ c, β = c → Sim n (((0, t), ⟨none, .v (.bool c)⟩) :: allE b st) (allB b st) a aw := by
      intro c hc
      refine ⟨hs.defers, hs.size, fun t' => ?_, ?_, hs.blocks, hs.ids⟩
      · rw [find_cons]
        by_cases ht : t = t'
        · subst ht
          rw [if_pos rfl]
          exact RelE.of (by rw [← hc]; exact hv)
        · rw [if_neg (by simpa using ht)]; exact hs.tmp t'
      · intro x hx
        obtain ⟨cells, T, h1, h2, h3⟩ := hs.box x hx
        exact ⟨cells, T, h1, h2, fun off ho => by rw [find_cons, if_neg (by simp)]; exact h3 off ho⟩
    cases β with
    | true => exact hy _ (h.1 rfl) (key true rfl) hw rfl
    | false => exact hn _ (h.2 rfl) (key false rfl) hw rfl
  · exact h.elim

theorem splitY_cases {st : St} {t : Tmp} {yes no : St → Prop} (h : splitY b st t yes no) {aw w : World} (hs : Sim n (allE b st) (allB b st) a aw) (hw : WR b st w aw) {C : Prop}
    (hy : ∀ st', yes st' → Sim n (allE b st') (allB b st') a aw → WR b st' w aw → st'.nb = st.nb → C) (hn : ∀ st', no st' → Sim n (allE b st') (allB b st') a aw → WR b st' w aw → st'.nb = st.nb → C) : C := by
  unfold splitY at h
  split at h
  · rename_i y s he
    have hr := hs.tmp t
    rw [he] at hr
    have key : ∀ e : Ent, RelE (allB b st) e (a.tmps.getD t undef) → Sim n (((0, t), e) :: allE b st) (allB b st) a aw := by
      intro e hre
      refine ⟨hs.defers, hs.size, fun t' => ?_, ?_, hs.blocks, hs.ids⟩
      · rw [find_cons]
        by_cases ht : t = t'
        · subst ht
          rw [if_pos rfl]
          exact hre
        · rw [if_neg (by simpa using ht)]; exact hs.tmp t'
      · intro x hx
        obtain ⟨cells, T, h1, h2, h3⟩ := hs.box x hx
        exact ⟨cells, T, h1, h2, fun off ho => by rw [find_cons, if_neg (by simp)]; exact h3 off ho⟩
    cases y with
    | true => exact hy _ (h.1 rfl) (key _ (RelE.of (hr.1 rfl))) hw rfl
    | false => exact hn _ (h.2 rfl) (key _ ⟨fun hx => (by cases hx), fun _ => hr.2 rfl⟩) hw rfl
  · exact h.elim

/-- Both ways of an operation that turns nothing. -/
theorem pure_put {st : St} {aw w : World} (hs : Sim n (allE b st) (allB b st) a aw) (hw : WR b st w aw) {o : Oper} (hd : ∀ t, o.dst = some t → t < n) {x : Option Bool} {s : SV} :
    (∀ v, xt x → RelSV (allB b st) s v → Sim n (allE b (setE st o.dst ⟨x, s⟩)) (allB b (setE st o.dst ⟨x, s⟩)) (a.put o.dst v) aw) ∧
    (¬ xt x → Sim n (allE b (setE st o.dst ⟨x, s⟩)) (allB b (setE st o.dst ⟨x, s⟩)) (a.put o.dst undef) aw) := by
  refine ⟨fun v hx hv => hs.setE hd ⟨fun _ => hv, fun h => ?_⟩, fun hx => hs.setE hd ⟨fun h => absurd h hx, fun _ => rfl⟩⟩
  rw [show x = some false from h] at hx
  cases hx

theorem vcSeq_sound (hT : TabOk P tab) (hF : ∀ f, okF f = true → Callee P f) {ops : Array Oper} (hdst : dstsOk n ops) {Q : Exit → Act → World → Prop} {K : Nat → St → World → Prop} (hQ : ∀ a aw, After n b K a aw → Q .normal a aw) :
    ∀ (r : RS) (rest : List Oper) (i : Nat) (st : St) (w : World) (a : Act) (aw : World), rest = ops.toList.drop i → vcSeq P tab okF ops.toList b r rest st w K →
      Sim n (allE b st) (allB b st) a aw → WR b st w aw → wpOps P ops Q (List.range' i rest.length) a aw := by
  have head : ∀ {o : Oper} {rest : List Oper} {i : Nat}, o :: rest = ops.toList.drop i → ops[i]? = some o ∧ rest = ops.toList.drop (i + 1) := by
    intro o rest i h
    have h1 : ops.toList[i]? = some o := by
      have := congrArg (·[0]?) h
      simpa using this.symm
    refine ⟨by simpa using h1, ?_⟩
    have := congrArg List.tail h
    simpa using this
  intro r
  induction r with
  | done j =>
    intro rest i st w a aw hr h hs hw
    cases rest with
    | nil => exact hQ _ _ ⟨j, st, w, h, hs, hw⟩
    | cons o rest => exact h.elim
  | p _ m r ih =>
    intro rest i st w a aw hr h hs hw
    cases rest with
    | nil => exact h.elim
    | cons o rest =>
      obtain ⟨ho, hrest⟩ := head hr
      rw [List.length_cons, List.range'_succ, wpOps_cons]
      unfold wpOp
      rw [ho]
      dsimp only
      obtain ⟨x0, h1, h2⟩ := guardX_spec h hs.tmp
      obtain ⟨x, m, h1, hxx⟩ := pX_spec h1
      rw [hxx] at h2
      obtain ⟨s, h3, h4⟩ := pure_sound (P := P) hT h1 hs.tmp hs.box
      obtain ⟨hyes, hno⟩ := pure_put hs hw (o := o) (hdst i o ho) (x := x) (s := s)
      split
      · rename_i hwant
        obtain ⟨v, h5, h6⟩ := h4 (h2.1 hwant)
        refine .inl (wp_value (h6 aw fun _ _ _ => rfl) ?_)
        exact ih rest (i + 1) _ w _ aw hrest h3 (hyes v (h2.1 hwant) h5) (hw.setE _ _)
      · rename_i hwant
        exact ih rest (i + 1) _ w _ aw hrest h3 (hno fun hx => hwant (h2.2 hx)) (hw.setE _ _)
  | sk _ r ih =>
    intro rest i st w a aw hr h hs hw
    cases rest with
    | nil => exact h.elim
    | cons o rest =>
      obtain ⟨ho, hrest⟩ := head hr
      rw [List.length_cons, List.range'_succ, wpOps_cons]
      unfold wpOp
      rw [ho]
      dsimp only
      obtain ⟨x, h1, h2⟩ := guardX_spec h hs.tmp
      split at h1
      · rw [if_neg (by rw [h2]; simp [xt])]
        exact ih rest (i + 1) _ w _ aw hrest h1 (hs.setE (hdst i o ho) RelE.skip) (hw.setE _ _)
      · exact h1.elim
  | s t yes no ih1 ih2 =>
    intro rest i st w a aw hr h hs hw
    have h : splitT b st t (fun st => vcSeq P tab okF ops.toList b yes rest st w K) (fun st => vcSeq P tab okF ops.toList b no rest st w K) := by
      cases rest <;> exact h
    exact splitT_cases h hs hw (fun st' h1 h2 h3 _ => ih1 rest i st' w a aw hr h1 h2 h3) (fun st' h1 h2 h3 _ => ih2 rest i st' w a aw hr h1 h2 h3)
  | sy t yes no ih1 ih2 =>
    intro rest i st w a aw hr h hs hw
    have h : splitY b st t (fun st => vcSeq P tab okF ops.toList b yes rest st w K) (fun st => vcSeq P tab okF ops.toList b no rest st w K) := by
      cases rest <;> exact h
    exact splitY_cases h hs hw (fun st' h1 h2 h3 _ => ih1 rest i st' w a aw hr h1 h2 h3) (fun st' h1 h2 h3 _ => ih2 rest i st' w a aw hr h1 h2 h3)
  | l _ r ih =>
    intro rest i st w a aw hr h hs hw
    cases rest <;> exact h.elim
  | o _ m r ih =>
    intro rest i st w a aw hr h hs hw
    cases rest with
    | nil => exact h.elim
    | cons o rest =>
      obtain ⟨ho, hrest⟩ := head hr
      rw [List.length_cons, List.range'_succ, wpOps_cons]
      unfold wpOp
      rw [ho]
      dsimp only
      obtain ⟨x, h1, h2⟩ := guardX_spec h hs.tmp
      have key : ∀ (hx : xt x), opB P tab okF b st w m o.op o.type o.dst (fun _ st w => vcSeq P tab okF ops.toList b r rest st w K) →
          (if Region.wanted o (yielded ops a.tmps) = true then o.wp P a aw (wpOps P ops Q (List.range' (i + 1) rest.length)) Q ∨ (o.asks P a aw ∧ LetsOut Q) else wpOps P ops Q (List.range' (i + 1) rest.length) (a.put o.dst undef) aw) := by
        intro hx h3
        rw [if_pos (h2.2 hx)]
        refine .inl (Oper.wp_mono ?_ (opB_sound hT hF h3 (hdst i o ho) hs hw))
        rintro a' aw' ⟨ch, st', w', h4, h5, h6, _⟩
        exact ih rest (i + 1) st' w' a' aw' hrest h4 h5 h6
      split at h1
      · exact key trivial h1
      · exact key rfl h1
      · exact h1.elim
  | br _ m r more ih1 ih2 =>
    intro rest i st w a aw hr h hs hw
    cases rest <;> exact h.elim
end
end Go.Vc

namespace Go.Vc
section
variable {P : Program} {tab : Tab} {b : Base} {n : Nat} {okF : FuncId → Bool}

def left (listed : Array Bool) : Nat := listed.toList.countP (!·)

theorem left_set {listed : Array Bool} {i : Nat} (h : listed.getD i true = false) : left listed = left (listed.setIfInBounds i true) + 1 := by
  unfold left
  rw [Array.toList_setIfInBounds]
  have hl : listed.toList[i]? = some false := by
    rw [Array.getD_eq_getD_getElem?] at h
    cases hq : listed[i]? with
    | none => rw [hq] at h; cases h
    | some u => rw [hq] at h; simp at h; rw [h] at hq; simpa using hq
  generalize listed.toList = l at hl
  clear h
  induction l generalizing i with
  | nil => simp at hl
  | cons c r ih =>
    cases i with
    | zero => simp at hl; subst hl; simp
    | succ i =>
      simp at hl
      have := ih hl
      simp only [List.set_cons_succ, List.countP_cons, this]
      omega

theorem left_replicate (k : Nat) : left (Array.replicate k false) = k := by
  unfold left
  simp [Array.toList_replicate, List.countP_replicate]

/-- The region's condition: behind every operation the world at its start is as it was, but for M and the hidden variables that it stores into; and the other hidden variables are as they were. -/
def SC (M : Option (Nat → Prop)) (ids : List Nat) (b0 : List Bx) (w0 : World) (aw : World) : Prop :=
  Fr (inM M (pickBx ids b0)) w0 aw ∧ ∀ y ∈ b0, ids.any (Nat.beq y.id) = false → aw.heap[y.b]? = w0.heap[y.b]?

theorem mem_pickBx {ids : List Nat} {x : Bx} : ∀ {bs : List Bx}, x ∈ pickBx ids bs ↔ x ∈ bs ∧ ids.any (Nat.beq x.id) = true
  | [] => by simp [pickBx]
  | y :: r => by
    have ih := mem_pickBx (ids := ids) (x := x) (bs := r)
    unfold pickBx
    split
    · rename_i h
      simp only [List.mem_cons, ih]
      constructor
      · rintro (rfl | ⟨h1, h2⟩)
        · exact ⟨.inl rfl, h⟩
        · exact ⟨.inr h1, h2⟩
      · rintro ⟨rfl | h1, h2⟩
        · exact .inl rfl
        · exact .inr ⟨h1, h2⟩
    · rename_i h
      simp only [List.mem_cons, ih]
      constructor
      · rintro ⟨h1, h2⟩; exact ⟨.inr h1, h2⟩
      · rintro ⟨rfl | h1, h2⟩
        · rw [h] at h2; cases h2
        · exact ⟨h1, h2⟩

theorem hasId_mem {k : Nat} : ∀ {bs : List Bx}, hasId k bs = true → ∃ x ∈ bs, x.id = k
  | x :: r, h => by
    unfold hasId at h
    split at h
    · rename_i hb; exact ⟨x, List.mem_cons_self .., Nat.eq_of_beq_eq_true hb⟩
    · obtain ⟨y, h1, h2⟩ := hasId_mem h
      exact ⟨y, List.mem_cons_of_mem _ h1, h2⟩

theorem id_inj {x y : Bx} : ∀ {bs : List Bx}, (bs.map (·.id)).Nodup → y ∈ bs → x ∈ bs → y.id = x.id → y = x
  | z :: r, hn, hy, hx, h => by
    simp only [List.map_cons, List.nodup_cons, List.mem_map, not_exists, not_and] at hn
    rcases List.mem_cons.1 hx with hx1 | hx1 <;> rcases List.mem_cons.1 hy with hy1 | hy1
    · rw [hx1, hy1]
    · subst hx1; exact absurd h (hn.1 y hy1)
    · subst hy1; exact absurd h.symm (hn.1 x hx1)
    · exact id_inj hn.2 hy1 hx1 h

theorem mem_ready_listed {ops : Array Oper} {md : Region.Mode} {listed : Array Bool} {i : Nat} (h : i ∈ Region.ready md ops listed) : listed.getD i true = false := (mem_ready.1 h).1

structure DSt (b : Base) (n : Nat) (M : Option (Nat → Prop)) (ids : List Nat) (b0 : List Bx) (w0 : World) (st : St) (w : World) (a : Act) (aw : World) : Prop where
  sim : Sim n (allE b st) (allB b st) a aw
  wr : WR b st w aw
  s : SC M ids b0 w0 aw
  old : ∃ l, allB b st = l ++ b0 ∧ ∀ y ∈ l, w0.heap.size ≤ y.b

variable {M : Option (Nat → Prop)} {ids : List Nat} {b0 : List Bx} {w0 : World}

theorem DSt.put {st : St} {w : World} {a : Act} {aw : World} (h : DSt b n M ids b0 w0 st w a aw) {d : Option Tmp} {e : Ent} {v : Value} (hd : ∀ t, d = some t → t < n) (hv : RelE (allB b st) e v) :
    DSt b n M ids b0 w0 (setE st d e) w (a.put d v) aw :=
  ⟨h.sim.setE hd hv, h.wr.setE _ _, h.s, by rw [allB_setE]; exact h.old⟩

/-- Behind an operation that is carried out. -/
theorem DSt.op {st : St} {w : World} {a : Act} {aw : World} (h : DSt b n M ids b0 w0 st w a aw) {o : Oper} (hsi : storesIn b0 ids (allE b st) o.op = true) {K : Bool → St → World → Prop} {a' : Act} {aw' : World}
    (hp : OpPost b st o n aw (fun ch st w => match ch with | true => Fr (inM M (pickBx ids b0)) w0 w ∧ K ch st w | false => K ch st w) a' aw') :
    ∃ ch st' w', K ch st' w' ∧ DSt b n M ids b0 w0 st' w' a' aw' := by
  obtain ⟨ch, st', w', hk, h1, h2, ⟨l, h3, h3b⟩, h4, h5, h6⟩ := hp
  obtain ⟨l0, hl0, hl0b⟩ := h.old
  have hsize : w0.heap.size ≤ aw.heap.size := h.s.1.size
  have hstore : ∀ y ∈ b0, ids.any (Nat.beq y.id) = false → stBox (allE b st) o.op ≠ some y.id := by
    intro y hy hn he
    unfold storesIn at hsi
    rw [he] at hsi
    dsimp only at hsi
    have hh : hasId y.id b0 = true := by
      cases hq : hasId y.id b0 with
      | true => rfl
      | false => exact absurd rfl (hasId_false hq y hy)
    rw [hh, hn] at hsi
    cases hsi
  have hb0 : ∀ y ∈ b0, y ∈ allB b st := fun y hy => by rw [hl0]; exact List.mem_append_right _ hy
  have hkeep : ∀ y ∈ b0, ids.any (Nat.beq y.id) = false → aw'.heap[y.b]? = w0.heap[y.b]? := fun y hy hn => (h4 y (hb0 y hy) (hstore y hy hn)).trans (h.s.2 y hy hn)
  have hold : ∃ l, allB b st' = l ++ b0 ∧ ∀ y ∈ l, w0.heap.size ≤ y.b := by
    refine ⟨l ++ l0, ?_, fun y hy => ?_⟩
    · simp only [allB, h3, List.append_assoc] at hl0 ⊢
      rw [hl0]
    · rcases List.mem_append.1 hy with hy | hy
      · exact Nat.le_trans hsize (h3b y hy)
      · exact hl0b y hy
  cases ch with
  | true =>
    obtain ⟨hf, hk⟩ := hk
    refine ⟨true, st', w', hk, h1, h2, ⟨?_, hkeep⟩, hold⟩
    rw [h6 rfl]; exact hf
  | false =>
    refine ⟨false, st', w', hk, h1, h2, ⟨?_, hkeep⟩, hold⟩
    refine h.s.1.trans (h5 rfl) (fun _ _ h => h) ?_
    rintro k hk ⟨y, hy, hst, rfl⟩
    have hy0 : y ∈ b0 := by
      rw [hl0] at hy
      rcases List.mem_append.1 hy with hy | hy
      · have := hl0b y hy; omega
      · exact hy
    have hin : orEq y.b (pickBx ids b0) := by
      rw [orEq_mem]
      refine ⟨y, mem_pickBx.2 ⟨hy0, ?_⟩, rfl⟩
      cases hq : ids.any (Nat.beq y.id) with
      | true => rfl
      | false => exact absurd hst (hstore y hy0 hq)
    unfold inM
    cases M with
    | none => exact hin
    | some M => exact .inr hin

theorem DSt.reads {st : St} {w : World} {a : Act} {aw : World} (h : DSt b n M ids b0 w0 st w a aw) {o : Oper} (hr : readsFree b0 ids (allE b st) o.op = true) {aw' : World} (hs : SC M ids b0 w0 aw') :
    ∀ y ∈ allB b st, rdsBox (allE b st) o.op = some y.id → aw'.heap[y.b]? = aw.heap[y.b]? := by
  intro y hy he
  unfold readsFree at hr
  rw [he] at hr
  simp only [Bool.and_eq_true, Bool.not_eq_true'] at hr
  obtain ⟨z, hz, hzid⟩ := hasId_mem hr.1
  obtain ⟨l0, hl0, _⟩ := h.old
  have : z = y := id_inj h.sim.ids (by rw [hl0]; exact List.mem_append_right _ hz) hy hzid
  subst this
  exact (hs.2 z hz hr.2).trans (h.s.2 z hz hr.2).symm

/-- No panic, no way out. -/
def QN (N : Act → World → Prop) : Exit → Act → World → Prop
  | .normal, a, w => N a w
  | _, _, _ => False

theorem notM_spec {M : Option (Nat → Prop)} {k : Nat} {sb : List Bx} {K : Prop} (h : notM M k (andNe k sb K)) : ¬ inM M sb k ∧ K := by
  cases M with
  | none =>
    obtain ⟨h1, h2⟩ := andNe_spec h
    exact ⟨fun hk => by obtain ⟨x, hx, he⟩ := orEq_mem.1 (show orEq k sb from hk); exact h1 x hx he, h2⟩
  | some M =>
    obtain ⟨h0, h⟩ := h
    obtain ⟨h1, h2⟩ := andNe_spec h
    exact ⟨fun hk => by
      rcases (show M k ∨ orEq k sb from hk) with hk | hk
      · exact h0 hk
      · obtain ⟨x, hx, he⟩ := orEq_mem.1 hk; exact h1 x hx he, h2⟩

theorem vcDraw_sound (hT : TabOk P tab) (hF : ∀ f, okF f = true → Callee P f) {ops : Array Oper} (hdst : dstsOk n ops) (hsel : Region.noSelect ops = true) {K : Nat → St → World → Prop} :
    ∀ (r : RS) (pend : Option (List Nat)) (listed : Array Bool) (st : St) (w : World) (a : Act) (aw : World), vcDraw P tab okF ops b w0 M ids b0 r pend listed st w K →
      DSt b n M ids b0 w0 st w a aw →
      match pend with
      | none => wpAnyH P .any ops (QN (After n b K)) (SC M ids b0 w0) (left listed) listed a aw
      | some l => (∀ i ∈ l, i ∈ Region.ready .any ops listed) → ∀ i ∈ l, wpOp P ops (QN (After n b K)) i (fun a' w' => SC M ids b0 w0 w' ∧ wpAnyH P .any ops (QN (After n b K)) (SC M ids b0 w0) (left listed - 1) (listed.setIfInBounds i true) a' w') a aw := by
  -- an operation that is taken first
  have take : ∀ {i : Nat} {listed : Array Bool} {o : Oper} {a : Act} {aw : World} {v : Value}, (Region.ready .any ops listed).contains i = true → Region.free .any ops listed i = true → ops[i]? = some o → YieldsIf P ops (SC M ids b0 w0) o v a → SC M ids b0 w0 aw →
      wpAnyH P .any ops (QN (After n b K)) (SC M ids b0 w0) (left (listed.setIfInBounds i true)) (listed.setIfInBounds i true) (a.put o.dst v) aw → wpAnyH P .any ops (QN (After n b K)) (SC M ids b0 w0) (left listed) listed a aw := by
    intro i listed o a aw v hr hf ho hy hs h
    rw [left_set (mem_ready_listed (by simpa using hr))]
    exact wpAnyH_take ho hsel hf hr (fun _ _ _ h => h) hy hs h
  -- an operation that is carried out
  have run : ∀ {i m : Nat} {listed : Array Bool} {o : Oper} {st : St} {w : World} {a : Act} {aw : World} {r : RS}
      (ih : ∀ (pend : Option (List Nat)) (listed : Array Bool) (st : St) (w : World) (a : Act) (aw : World), vcDraw P tab okF ops b w0 M ids b0 r pend listed st w K → DSt b n M ids b0 w0 st w a aw →
        match pend with
        | none => wpAnyH P .any ops (QN (After n b K)) (SC M ids b0 w0) (left listed) listed a aw
        | some l => (∀ i ∈ l, i ∈ Region.ready .any ops listed) → ∀ i ∈ l, wpOp P ops (QN (After n b K)) i (fun a' w' => SC M ids b0 w0 w' ∧ wpAnyH P .any ops (QN (After n b K)) (SC M ids b0 w0) (left listed - 1) (listed.setIfInBounds i true) a' w') a aw),
      ops[i]? = some o → i ∈ Region.ready .any ops listed → DSt b n M ids b0 w0 st w a aw →
      (guardX ops.toList o (allE b st) fun x => match x with
          | none | some true => match storesIn b0 ids (allE b st) o.op with
           | true => opB P tab okF b st w m o.op o.type o.dst fun ch st w => match ch with
            | true => Fr (inM M (pickBx ids b0)) w0 w ∧ vcDraw P tab okF ops b w0 M ids b0 r none (listed.setIfInBounds i true) st w K
            | false => vcDraw P tab okF ops b w0 M ids b0 r none (listed.setIfInBounds i true) st w K
           | false => False
          | _ => False) →
      wpOp P ops (QN (After n b K)) i (fun a' w' => SC M ids b0 w0 w' ∧ wpAnyH P .any ops (QN (After n b K)) (SC M ids b0 w0) (left listed - 1) (listed.setIfInBounds i true) a' w') a aw := by
    intro i m listed o st w a aw r ih ho hr hD h
    unfold wpOp
    rw [ho]
    dsimp only
    obtain ⟨x, h1, h2⟩ := guardX_spec h hD.sim.tmp
    have hl := left_set (mem_ready_listed hr)
    have key : xt x → (match storesIn b0 ids (allE b st) o.op with
           | true => opB P tab okF b st w m o.op o.type o.dst fun ch st w => match ch with
            | true => Fr (inM M (pickBx ids b0)) w0 w ∧ vcDraw P tab okF ops b w0 M ids b0 r none (listed.setIfInBounds i true) st w K
            | false => vcDraw P tab okF ops b w0 M ids b0 r none (listed.setIfInBounds i true) st w K
           | false => False) → (if Region.wanted o (yielded ops a.tmps) = true then o.wp P a aw (fun a' w' => SC M ids b0 w0 w' ∧ wpAnyH P .any ops (QN (After n b K)) (SC M ids b0 w0) (left listed - 1) (listed.setIfInBounds i true) a' w') (QN (After n b K)) ∨ (o.asks P a aw ∧ LetsOut (QN (After n b K)))
            else (fun a' w' => SC M ids b0 w0 w' ∧ wpAnyH P .any ops (QN (After n b K)) (SC M ids b0 w0) (left listed - 1) (listed.setIfInBounds i true) a' w') (a.put o.dst undef) aw) := by
      intro hx h3
      split at h3
      · rename_i hsi
        rw [if_pos (h2.2 hx)]
        refine .inl (Oper.wp_mono ?_ (opB_sound hT hF h3 (hdst i o ho) hD.sim hD.wr))
        intro a' aw' hp
        obtain ⟨ch, st', w', hk, hD'⟩ := hD.op hsi (K := fun _ st w => vcDraw P tab okF ops b w0 M ids b0 r none (listed.setIfInBounds i true) st w K) hp
        refine ⟨hD'.s, ?_⟩
        have := ih none _ st' w' a' aw' hk hD'
        rw [hl, Nat.add_sub_cancel]
        exact this
      · exact h3.elim
    split at h1
    · exact key trivial h1
    · exact key rfl h1
    · exact h1.elim
  have all : ∀ {listed : Array Bool} {a : Act} {aw : World}, Region.ready .any ops listed ≠ [] →
      (∀ i ∈ Region.ready .any ops listed, wpOp P ops (QN (After n b K)) i (fun a' w' => SC M ids b0 w0 w' ∧ wpAnyH P .any ops (QN (After n b K)) (SC M ids b0 w0) (left listed - 1) (listed.setIfInBounds i true) a' w') a aw) →
      wpAnyH P .any ops (QN (After n b K)) (SC M ids b0 w0) (left listed) listed a aw := by
    intro listed a aw hne h
    cases hr : Region.ready .any ops listed with
    | nil => exact absurd hr hne
    | cons i r =>
      have hl := left_set (mem_ready_listed (md := .any) (ops := ops) (i := i) (listed := listed) (by rw [hr]; exact List.mem_cons_self ..))
      rw [hl] at h ⊢
      rw [Nat.add_sub_cancel] at h
      exact wpAnyH_all rfl hne h
  intro r
  induction r with
  | done j =>
    intro pend listed st w a aw h hD
    cases pend with
    | some l => exact h.elim
    | none =>
      simp only [vcDraw] at h
      split at h
      · rename_i hr
        exact wpAnyH_done hr ⟨j, st, w, h, hD.sim, hD.wr⟩ _
      · exact h.elim
  | p i m r ih =>
    intro pend listed st w a aw h hD
    cases pend with
    | some l => exact h.elim
    | none =>
      simp only [vcDraw] at h
      split at h
      · rename_i hc
        simp only [Bool.and_eq_true] at hc
        split at h
        · rename_i o ho
          have ho : ops[i]? = some o := by simpa using ho
          split at h
          · rename_i hrd
            obtain ⟨x0, h1, h2⟩ := guardX_spec h hD.sim.tmp
            obtain ⟨x, m, h1, hxx⟩ := pX_spec h1
            rw [hxx] at h2
            obtain ⟨s, h3, h4⟩ := pure_sound (P := P) hT h1 hD.sim.tmp hD.sim.box
            by_cases hx : xt x
            · obtain ⟨v, h5, h6⟩ := h4 hx
              refine take hc.1 hc.2 ho (v := v) (.inl ⟨h2.2 hx, fun w' hS => h6 w' (hD.reads hrd hS)⟩) hD.s ?_
              refine ih none _ _ w _ aw h3 (hD.put (hdst i o ho) ⟨fun _ => h5, fun h => ?_⟩)
              rw [show x = some false from h] at hx; cases hx
            · refine take hc.1 hc.2 ho (v := undef) (.inr ⟨Bool.eq_false_iff.2 fun h => hx (h2.1 h), rfl⟩) hD.s ?_
              exact ih none _ _ w _ aw h3 (hD.put (hdst i o ho) ⟨fun h => absurd h hx, fun _ => rfl⟩)
          · exact h.elim
        · exact h.elim
      · exact h.elim
  | sk i r ih =>
    intro pend listed st w a aw h hD
    cases pend with
    | some l => exact h.elim
    | none =>
      simp only [vcDraw] at h
      split at h
      · rename_i hc
        simp only [Bool.and_eq_true] at hc
        split at h
        · rename_i o ho
          have ho : ops[i]? = some o := by simpa using ho
          obtain ⟨x, h1, h2⟩ := guardX_spec h hD.sim.tmp
          split at h1
          · refine take hc.1 hc.2 ho (v := undef) (.inr ⟨Bool.eq_false_iff.2 fun h => (by cases (h2.1 h)), rfl⟩) hD.s ?_
            exact ih none _ _ w _ aw h1 (hD.put (hdst i o ho) RelE.skip)
          · exact h1.elim
        · exact h.elim
      · exact h.elim
  | s t yes no ih1 ih2 =>
    intro pend listed st w a aw h hD
    cases pend with
    | some l => exact h.elim
    | none =>
      simp only [vcDraw] at h
      have hB : ∀ st' : St, st'.nb = st.nb → allB b st' = allB b st := fun st' h => by simp [allB, h]
      exact splitT_cases h hD.sim hD.wr (fun st' h1 h2 h3 h4 => ih1 none listed st' w a aw h1 ⟨h2, h3, hD.s, by rw [hB st' h4]; exact hD.old⟩)
        (fun st' h1 h2 h3 h4 => ih2 none listed st' w a aw h1 ⟨h2, h3, hD.s, by rw [hB st' h4]; exact hD.old⟩)
  | sy t yes no ih1 ih2 =>
    intro pend listed st w a aw h hD
    cases pend with
    | some l => exact h.elim
    | none =>
      simp only [vcDraw] at h
      have hB : ∀ st' : St, st'.nb = st.nb → allB b st' = allB b st := fun st' h => by simp [allB, h]
      exact splitY_cases h hD.sim hD.wr (fun st' h1 h2 h3 h4 => ih1 none listed st' w a aw h1 ⟨h2, h3, hD.s, by rw [hB st' h4]; exact hD.old⟩)
        (fun st' h1 h2 h3 h4 => ih2 none listed st' w a aw h1 ⟨h2, h3, hD.s, by rw [hB st' h4]; exact hD.old⟩)
  | l i r ih =>
    intro pend listed st w a aw h hD
    cases pend with
    | some l => exact h.elim
    | none =>
      simp only [vcDraw] at h
      split at h
      · rename_i hc
        simp only [Bool.and_eq_true] at hc
        split at h
        · rename_i o ho
          have ho : ops[i]? = some o := by simpa using ho
          obtain ⟨x, h1, h2⟩ := guardX_spec h hD.sim.tmp
          have key : xt x → (match o.op with
          | .load t y => rdV (allE b st) none y fun v => match v, tab t with
            | .pointer (some a), some ti => loadVc ti w0 a fun v => notM M a.block (andNe a.block (pickBx ids b0) (vcDraw P tab okF ops b w0 M ids b0 r none (listed.setIfInBounds i true) (setE st o.dst ⟨none, .v v⟩) w K))
            | _, _ => False
          | _ => False) → wpAnyH P .any ops (QN (After n b K)) (SC M ids b0 w0) (left listed) listed a aw := by
            intro hx h3
            split at h3
            · rename_i t y hop
              obtain ⟨v, h5, h6⟩ := rdV_spec h3 hD.sim.tmp
              replace h6 := h6 trivial
              split at h5
              · rename_i ad ti hti
                obtain ⟨u, h7, h8⟩ := loadVc_spec (P := P) hT hti h5
                obtain ⟨h9, h10⟩ := notM_spec h7
                refine take hc.1 hc.2 ho (v := u) (.inl ⟨h2.2 hx, fun w' hS => ?_⟩) hD.s ?_
                · have hrun := h8 w' fun j u hu => by
                    have hlt := World.block_lt_of_cell? w0 _ hu
                    rw [add_block] at hlt
                    have hblk := hS.1.keep _ hlt h9
                    unfold World.cell? at hu ⊢
                    rw [add_block] at hu ⊢
                    rw [hblk]
                    exact hu
                  rw [show execOp a.eval o = execOp a.eval { o with op := .load t y } from by rw [← hop]]
                  simp only [execOp, h6, Sem.run_bind, hrun]
                  rfl
                · exact ih none _ _ w _ aw h10 (hD.put (hdst i o ho) RelE.v)
              · exact h5.elim
            · exact h3.elim
          split at h1
          · exact key trivial h1
          · exact key rfl h1
          · exact h1.elim
        · exact h.elim
      · exact h.elim
  | o i m r ih =>
    intro pend listed st w a aw h hD
    simp only [vcDraw] at h
    split at h
    · rename_i j hj
      split at h
      · rename_i hij
        have hij := Nat.eq_of_beq_eq_true hij
        subst hij
        split at h
        · rename_i o ho
          have ho : ops[i]? = some o := by simpa using ho
          cases pend with
          | none =>
            dsimp only at hj
            refine all (by rw [hj]; simp) fun k hk => ?_
            rw [hj] at hk
            obtain rfl := List.mem_singleton.1 hk
            exact run ih ho (by rw [hj]; exact hk) hD h
          | some l =>
            dsimp only at hj
            subst hj
            intro hrdy k hk
            obtain rfl := List.mem_singleton.1 hk
            exact run ih ho (hrdy _ hk) hD h
        · exact h.elim
      · exact h.elim
    · exact h.elim
  | br i m r more ih1 ih2 =>
    intro pend listed st w a aw h hD
    simp only [vcDraw] at h
    split at h
    · rename_i j js hj
      split at h
      · rename_i hij
        have hij := Nat.eq_of_beq_eq_true hij
        subst hij
        split at h
        · rename_i o ho
          have ho : ops[i]? = some o := by simpa using ho
          obtain ⟨hA, hB⟩ := h
          have hmore := ih2 (some js) listed st w a aw hB hD
          cases pend with
          | none =>
            dsimp only at hj
            refine all (by rw [hj]; simp) fun k hk => ?_
            rw [hj] at hk
            rcases List.mem_cons.1 hk with rfl | hk'
            · exact run ih1 ho (by rw [hj]; exact List.mem_cons_self ..) hD hA
            · exact hmore (fun z hz => by rw [hj]; exact List.mem_cons_of_mem _ hz) k hk'
          | some l =>
            dsimp only at hj
            subst hj
            intro hrdy k hk
            rcases List.mem_cons.1 hk with rfl | hk'
            · exact run ih1 ho (hrdy _ (List.mem_cons_self ..)) hD hA
            · exact hmore (fun z hz => hrdy z (List.mem_cons_of_mem _ hz)) k hk'
        · exact h.elim
      · exact h.elim
    · exact h.elim
end
end Go.Vc

namespace Go.Vc
section
variable {P : Program} {tab : Tab} {n : Nat} {okF : FuncId → Bool}

/-- A loop, its round counted down by a number that the frame need not show. -/
theorem wp_loopN {c : Code} {Q : Exit → Act → World → Prop} (I : Nat → Act → World → Prop)
    (round : ∀ m a w, I m a w → c.wp P (Exit.then (fun a' w' => ∃ m', m' < m ∧ I m' a' w') Q) a w) : ∀ m a w, I m a w → (Code.loop c).wp P Q a w := by
  have key : ∀ m a w, I m a w → ∀ (b : Frame) (k : List Item) (cs : List Frame),
      ∃ e a' w', Q e a' w' ∧ Arrives P (lone (b.at a (.code c :: .inLoop c :: k)) cs w) b k cs e a' w' := by
    intro m
    induction m using Nat.strongRecOn with
    | _ m ih =>
      intro a w hI b k cs
      obtain ⟨e, a₁, w₁, hq, harr⟩ := round m a w hI b (.inLoop c :: k) cs
      cases e with
      | normal =>
        obtain ⟨m', hlt, hI₁⟩ := hq
        obtain ⟨e₂, a₂, w₂, hq₂, harr₂⟩ := ih m' hlt a₁ w₁ hI₁ b k cs
        exact ⟨e₂, a₂, w₂, hq₂, .of_steps (Steps.trans harr (.one step_inLoop)) harr₂⟩
      | exit id => exact ⟨_, a₁, w₁, hq, .pass (x := .inLoop c) rfl (fun _ _ => .inl (by simp)) harr⟩
      | goto l => exact ⟨_, a₁, w₁, hq, .pass (x := .inLoop c) rfl (fun _ _ => .inl (by simp)) harr⟩
      | ret => exact ⟨_, a₁, w₁, hq, .pass (x := .inLoop c) rfl (fun _ _ => .inl (by simp)) harr⟩
      | panic ch => exact ⟨_, a₁, w₁, hq, .pass (x := .inLoop c) rfl (fun _ _ => .inl (by simp)) harr⟩
      | outgrown => exact ⟨_, a₁, w₁, hq, .pass (x := .inLoop c) rfl (fun _ _ => .inl (by simp)) harr⟩
  intro m a w hI b k cs
  obtain ⟨e, a', w', hq, harr⟩ := key m a w hI b k cs
  exact ⟨e, a', w', hq, .of_steps (.one step_loop) harr⟩

/-- The post of a piece of code. -/
def QQ (n : Nat) (b : Base) (KN : Nat → St → World → Prop) (KX : Nat → Nat → St → World → Prop) (KR : St → World → Prop) : Exit → Act → World → Prop
  | .normal, a, w => After n b KN a w
  | .exit i, a, w => After n b (KX i) a w
  | .ret, a, w => After n b (fun _ => KR) a w
  | _, _, _ => False

theorem After.mono {b : Base} {K K' : Nat → St → World → Prop} {a : Act} {w : World} (h : ∀ j st w, K j st w → K' j st w) : After n b K a w → After n b K' a w :=
  fun ⟨j, st, w, h1, h2⟩ => ⟨j, st, w, h _ _ _ h1, h2⟩

theorem dstsOk_of {ops : Array Oper} (h : (ops.toList.all fun o => match o.dst with | some t => Nat.blt t n | none => true) = true) : dstsOk n ops := by
  intro i o ho t ht
  have hm : o ∈ ops.toList := by simpa using Array.mem_of_getElem? ho
  have := List.all_eq_true.1 h o hm
  simp only [ht] at this
  exact Nat.le_of_ble_eq_true this

theorem app_spec {R : Type} : ∀ {ks : List Kd} {I : Inv R ks} {vs : List Value} {F : R → Prop}, app ks I vs F → ∃ r, F r ∧ ∀ G : R → Prop, app ks I vs G ↔ G r
  | [], I, [], F, h => ⟨I, h, fun _ => Iff.rfl⟩
  | .int k :: ks, I, .int k' m :: vs, F, h => by
    unfold app at h
    split at h
    · rename_i hk
      obtain ⟨r, h1, h2⟩ := app_spec (ks := ks) h
      exact ⟨r, h1, fun G => by unfold app; rw [hk]; exact h2 G⟩
    · exact h.elim
  | .bool :: ks, I, .bool x :: vs, F, h => app_spec (ks := ks) (I := I x) h
  | .str :: ks, I, .string x :: vs, F, h => app_spec (ks := ks) (I := I x) h
  | .ptr :: ks, I, .pointer x :: vs, F, h => app_spec (ks := ks) (I := I x) h
  | .slice :: ks, I, .slice x l c :: vs, F, h => app_spec (ks := ks) (I := I x l c) h
  | .val :: ks, I, x :: vs, F, h => by
    have h' : app ks (I x) vs F := by cases x <;> exact h
    obtain ⟨r, h1, h2⟩ := app_spec (ks := ks) h'
    exact ⟨r, h1, fun G => by rw [← h2 G]; cases x <;> exact Iff.rfl⟩
  | [], I, _ :: _, F, h => h.elim
  | .int k :: ks, I, [], F, h => h.elim
  | .bool :: ks, I, [], F, h => h.elim
  | .str :: ks, I, [], F, h => h.elim
  | .ptr :: ks, I, [], F, h => h.elim
  | .slice :: ks, I, [], F, h => h.elim
  | .val :: ks, I, [], F, h => h.elim


theorem allK_app {R : Type} {k : Kd} {ks : List Kd} {I : Inv R (k :: ks)} {v : Value} {vs : List Value} {G : R → Prop} (h : app (k :: ks) I (v :: vs) G) {F : Value → Prop} (hF : allK k F) : F v ∧ ∃ (I' : Inv R ks), app ks I' vs G := by
  cases k <;> cases v <;> first
    | exact h.elim
    | exact ⟨hF _, _, h⟩
    | exact ⟨hF _ _ _, _, h⟩
    | (unfold app at h
       split at h
       · rename_i hk
         obtain rfl := kindEq_eq hk
         exact ⟨hF _, _, h⟩
       · exact h.elim)

theorem allL_app {R : Type} : ∀ {ks : List Kd} {I : Inv R ks} {vs : List Value} {G : R → Prop} {F : List Value → Prop}, app ks I vs G → allL ks F → F vs
  | [], I, [], G, F, _, hF => hF
  | [], I, v :: vs, G, F, h, _ => h.elim
  | k :: ks, I, [], G, F, h, _ => by cases k <;> exact h.elim
  | k :: ks, I, v :: vs, G, F, h, hF => by
    obtain ⟨h1, I', h2⟩ := allK_app h hF
    exact allL_app (F := fun vs => F (v :: vs)) h2 h1

theorem getL_spec {env : Env} : ∀ {trk : List (Key × Kd)} {K : List Value → Prop}, getL env trk K → ∃ vs, K vs ∧ vs.length = trk.length ∧ ∀ (i : Nat) (p : Key × Kd), trk[i]? = some p → ∃ v, vs[i]? = some v ∧ find p.1 env = ⟨none, .v v⟩
  | [], K, h => ⟨[], h, rfl, fun i p hp => by simp at hp⟩
  | (k, d) :: r, K, h => by
    unfold getL at h
    split at h
    · rename_i v hf
      obtain ⟨vs, h1, h2, h3⟩ := getL_spec h
      refine ⟨v :: vs, h1, by simp [h2], fun i p hp => ?_⟩
      cases i with
      | zero => simp at hp; subst hp; exact ⟨v, rfl, hf⟩
      | succ i => exact h3 i p (by simpa using hp)
    · exact h.elim

theorem find_headE {env0 env' : Env} {jk : List Key} {k : Key} : ∀ {trk : List (Key × Kd)} {vs : List Value}, vs.length = trk.length → (∀ (i : Nat) (p : Key × Kd), trk[i]? = some p → ∃ v, vs[i]? = some v ∧ find p.1 env' = ⟨none, .v v⟩) →
    (∃ v, find k (headE trk vs jk ++ env0) = ⟨none, .v v⟩ ∧ find k env' = ⟨none, .v v⟩) ∨ find k (headE trk vs jk ++ env0) = ⟨none, .junk⟩ ∨ (k ∉ trk.map (·.1) ++ jk ∧ find k (headE trk vs jk ++ env0) = find k env0)
  | [], [], _, _ => by
    have e : headE [] [] jk = jk.map fun k => (k, ⟨none, .junk⟩) := rfl
    rw [e]
    clear e
    simp only [List.map_nil, List.nil_append]
    right
    induction jk with
    | nil => exact .inr ⟨by simp, rfl⟩
    | cons j r ih =>
      simp only [List.map_cons, List.cons_append, find_cons]
      by_cases hj : j = k
      · rw [if_pos hj]; exact .inl rfl
      · rw [if_neg hj]
        rcases ih with ih | ⟨ih1, ih2⟩
        · exact .inl ih
        · exact .inr ⟨by simp; exact ⟨fun h => hj h.symm, ih1⟩, ih2⟩
  | (j, d) :: r, v :: vs, hl, h => by
    have e : headE ((j, d) :: r) (v :: vs) jk = (j, ⟨none, .v v⟩) :: headE r vs jk := rfl
    rw [e, List.cons_append, find_cons]
    by_cases hj : j = k
    · rw [if_pos hj]
      obtain ⟨u, h1, h2⟩ := h 0 (j, d) rfl
      simp at h1; subst h1
      rw [hj] at h2
      exact .inl ⟨v, rfl, h2⟩
    · rw [if_neg hj]
      rcases find_headE (k := k) (env0 := env0) (jk := jk) (trk := r) (vs := vs) (by simpa using hl) (fun i p hp => h (i + 1) p hp) with h1 | h1 | ⟨h1, h2⟩
      · exact .inl h1
      · exact .inr (.inl h1)
      · exact .inr (.inr ⟨by simp only [List.map_cons, List.cons_append, List.mem_cons, not_or]; exact ⟨fun h => hj h.symm, h1⟩, h2⟩)

theorem hasKey_mem {k : Key} : ∀ {ks : List Key}, hasKey k ks = true → k ∈ ks
  | k' :: r, h => by
    unfold hasKey at h
    split at h
    · rename_i hk
      simp only [keyEq, Bool.and_eq_true] at hk
      have : k' = k := by
        obtain ⟨x, y⟩ := k
        obtain ⟨x', y'⟩ := k'
        have e1 : x' = x := Nat.eq_of_beq_eq_true hk.1
        have e2 : y' = y := Nat.eq_of_beq_eq_true hk.2
        rw [e1, e2]
      rw [this]; exact List.mem_cons_self ..
    · exact List.mem_cons_of_mem _ (hasKey_mem h)

theorem keysOk_spec {ks : List Key} {bs : List Bx} {k : Key} (hk : k.1 = 0 ∨ ∃ x ∈ bs, k.1 = x.id + 1) (hn : k ∉ ks) : ∀ {pre : Env}, keysOk ks bs pre = true → ∀ p ∈ pre, p.1 ≠ k
  | (j, e) :: r, h, p, hp => by
    simp only [keysOk, Bool.and_eq_true] at h
    rcases List.mem_cons.1 hp with rfl | hp
    · intro he
      dsimp only at he
      subst he
      rcases hk with h0 | ⟨x, hx, h0⟩
      · rw [h0] at h
        exact hn (hasKey_mem h.1)
      · rw [h0] at h
        have h1 := h.1
        dsimp only at h1
        have : hasId x.id bs = true := by
          cases hq : hasId x.id bs with
          | true => rfl
          | false => exact absurd rfl (hasId_false hq x hx)
        rw [this] at h1
        exact hn (hasKey_mem h1)
    · exact keysOk_spec hk hn h.2 p hp

theorem findBx_drop {nb bs : List Bx} {k : Nat} {x y : Bx} (hn : ((nb ++ bs).map (·.id)).Nodup) (h : findBx k (nb ++ bs) = some x) (hy : findBx k bs = some y) : findBx k bs = some x := by
  obtain ⟨h1, h2⟩ := mem_findBx hy
  have := findBx_mem hn (List.mem_append_right nb h1) h2
  rw [this] at h
  rw [hy]
  exact h

/-- What an unturned entry says in the base. -/
def WfE (env : Env) (bs : List Bx) : Prop :=
  ∀ k : Key, (k.1 = 0 ∨ ∃ x ∈ bs, k.1 = x.id + 1 ∧ k.2 < x.n) → xt (find k env).x → ∀ i off, (find k env).s = .bx i off → ∃ y, findBx i bs = some y

theorem Sim.wf {env : Env} {bs : List Bx} {a : Act} {w : World} (h : Sim n env bs a w) : WfE env bs := by
  intro k hk hx i off he
  rcases hk with h0 | ⟨x, hm, h0, h1⟩
  · have := (h.tmp k.2).1
    rw [show ((0, k.2) : Key) = k from by rw [← h0]] at this
    have := this hx
    rw [he] at this
    obtain ⟨y, hy, _⟩ := this
    exact ⟨y, hy⟩
  · obtain ⟨cells, T, _, _, h3⟩ := h.box x hm
    have := (h3 k.2 h1).1
    rw [show ((x.id + 1, k.2) : Key) = k from by rw [← h0]] at this
    have := this hx
    rw [he] at this
    obtain ⟨y, hy, _⟩ := this
    exact ⟨y, hy⟩

theorem Sim.head {env0 pre : Env} {bs nb : List Bx} {a : Act} {w : World} {trk : List (Key × Kd)} {jk : List Key} {vs : List Value} (h : Sim n (pre ++ env0) (nb ++ bs) a w) (hk : keysOk (trk.map (·.1) ++ jk) bs pre = true)
    (hl : vs.length = trk.length) (hv : ∀ (i : Nat) (p : Key × Kd), trk[i]? = some p → ∃ v, vs[i]? = some v ∧ find p.1 (pre ++ env0) = ⟨none, .v v⟩) (wf : WfE env0 bs) : Sim n (headE trk vs jk ++ env0) bs a w := by
  have key : ∀ (k : Key) (u : Value), (k.1 = 0 ∨ ∃ x ∈ bs, k.1 = x.id + 1 ∧ k.2 < x.n) → RelE (nb ++ bs) (find k (pre ++ env0)) u → RelE bs (find k (headE trk vs jk ++ env0)) u := by
    intro k u hrel hr
    rcases find_headE (k := k) (env0 := env0) (jk := jk) hl hv with ⟨v, h1, h2⟩ | h1 | ⟨h1, h2⟩
    · rw [h1]
      rw [h2] at hr
      have := hr.1 trivial
      rw [show u = v from this]
      exact RelE.v
    · rw [h1]; exact RelE.junk
    · have hrel' : k.1 = 0 ∨ ∃ x ∈ bs, k.1 = x.id + 1 := hrel.imp id fun ⟨x, hx, h1, _⟩ => ⟨x, hx, h1⟩
      rw [find_append_left (keysOk_spec hrel' h1 hk)] at hr
      rw [h2]
      refine ⟨fun hx => ?_, hr.2⟩
      have h3 := hr.1 hx
      cases hs : (find k env0).s with
      | v x => rw [hs] at h3; exact h3
      | junk => trivial
      | bx i off =>
        rw [hs] at h3
        obtain ⟨x, h4, h5⟩ := h3
        obtain ⟨y, hy⟩ := wf k hrel hx i off hs
        exact ⟨x, findBx_drop h.ids h4 hy, h5⟩
  refine ⟨h.defers, h.size, fun t => key _ _ (.inl rfl) (h.tmp t), ?_, ?_, ?_⟩
  · intro x hx
    obtain ⟨cells, T, h1, h2, h3⟩ := h.box x (List.mem_append_right _ hx)
    exact ⟨cells, T, h1, h2, fun off ho => key _ _ (.inr ⟨x, hx, rfl, ho⟩) (h3 off ho)⟩
  · have := h.blocks; rw [List.map_append] at this; exact (List.nodup_append.1 this).2.1
  · have := h.ids; rw [List.map_append] at this; exact (List.nodup_append.1 this).2.1

theorem hasKey_of_mem {k : Key} : ∀ {ks : List Key}, k ∈ ks → hasKey k ks = true
  | k' :: r, h => by
    unfold hasKey
    split
    · rfl
    · rename_i hk
      rcases List.mem_cons.1 h with rfl | h
      · simp [keyEq] at hk
      · exact hasKey_of_mem h

theorem keysOk_append {ks : List Key} {bs : List Bx} : ∀ {l r : Env}, keysOk ks bs l = true → keysOk ks bs r = true → keysOk ks bs (l ++ r) = true
  | [], r, _, h => h
  | p :: l, r, h1, h2 => by
    simp only [keysOk, Bool.and_eq_true, List.cons_append] at h1 ⊢
    exact ⟨h1.1, keysOk_append h1.2 h2⟩

theorem keysOk_of_mem {ks : List Key} {bs : List Bx} : ∀ {l : Env}, (∀ p ∈ l, p.1 ∈ ks) → keysOk ks bs l = true
  | [], _ => rfl
  | p :: l, h => by
    have h1 := hasKey_of_mem (h p (List.mem_cons_self ..))
    have h2 := keysOk_of_mem (ks := ks) (bs := bs) (l := l) fun q hq => h q (List.mem_cons_of_mem _ hq)
    obtain ⟨k, e⟩ := p
    simp only [keysOk, Bool.and_eq_true]
    refine ⟨?_, h2⟩
    split
    · exact h1
    · dsimp only at h1; rw [h1]; simp

theorem keysOk_headE {trk : List (Key × Kd)} {vs : List Value} {jk : List Key} {bs : List Bx} : keysOk (trk.map (·.1) ++ jk) bs (headE trk vs jk) = true := by
  refine keysOk_of_mem fun p hp => ?_
  unfold headE at hp
  rcases List.mem_append.1 hp with hp | hp
  · obtain ⟨q, hq, rfl⟩ := List.mem_map.1 hp
    exact List.mem_append_left _ (List.of_mem_zip hq).1
  · obtain ⟨q, hq, rfl⟩ := List.mem_map.1 hp
    exact List.mem_append_right _ hq
end
end Go.Vc

namespace Go.Vc
section
variable {P : Program} {tab : Tab} {n : Nat} {okF : FuncId → Bool}

/-- The regions hold no select: asked of the code once. -/
def noSel : Code → Bool
  | .region _ ops _ => Region.noSelect ops
  | .seq a b => noSel a && noSel b
  | .cond _ a b => noSel a && noSel b
  | .block _ a => noSel a
  | .loop a => noSel a
  | _ => true

/-- From an inner base to the outer one. -/
theorem After.lift {b : Base} {st : St} {mid : Env} {K : Nat → St → World → Prop} {a : Act} {w : World}
    (h : After n ⟨mid ++ allE b st, allB b st⟩ (fun j st' w' => K j { env := st'.env ++ (mid ++ st.env), nb := st'.nb ++ st.nb, dirty := st'.dirty } w') a w) : After n b K a w := by
  obtain ⟨j, st', w', h1, h2, h3⟩ := h
  refine ⟨j, _, w', h1, ?_, ?_⟩
  · have e1 : allE b { env := st'.env ++ (mid ++ st.env), nb := st'.nb ++ st.nb, dirty := st'.dirty } = allE ⟨mid ++ allE b st, allB b st⟩ st' := by simp [allE]
    have e2 : allB b { env := st'.env ++ (mid ++ st.env), nb := st'.nb ++ st.nb, dirty := st'.dirty } = allB ⟨mid ++ allE b st, allB b st⟩ st' := by simp [allB]
    rw [e1, e2]; exact h2
  · have e2 : allB b { env := st'.env ++ (mid ++ st.env), nb := st'.nb ++ st.nb, dirty := st'.dirty } = allB ⟨mid ++ allE b st, allB b st⟩ st' := by simp [allB]
    unfold WR
    rw [e2]; exact h3

theorem After.lift0 {b : Base} {st : St} {K : Nat → St → World → Prop} {a : Act} {w : World}
    (h : After n ⟨allE b st, allB b st⟩ (fun j st' w' => K j { env := st'.env ++ st.env, nb := st'.nb ++ st.nb, dirty := st'.dirty } w') a w) : After n b K a w :=
  After.lift (mid := []) (by simpa using h)

theorem vc_sound (hm : P.follows .mixedOrders = true) (hT : TabOk P tab) (hF : ∀ f, okF f = true → Callee P f) :
    ∀ (h : H) (i : Nat) (c : Code) (b : Base) (st : St) (w : World) (KN : Nat → St → World → Prop) (KX : Nat → Nat → St → World → Prop) (KR : St → World → Prop) (a : Act) (aw : World),
      dstOk n c = true → noSel c = true → vc P tab okF h i c b st w KN KX KR → Sim n (allE b st) (allB b st) a aw → WR b st w aw → c.wp P (QQ n b KN KX KR) a aw := by
  intro h
  induction h with
  | alt h1 h2 ih1 ih2 =>
    intro i c b st w KN KX KR a aw hd hn hv hs hw
    cases i with
    | zero => exact ih1 0 c b st w KN KX KR a aw hd hn (by cases c <;> exact hv) hs hw
    | succ i => exact ih2 i c b st w KN KX KR a aw hd hn (by cases c <;> exact hv) hs hw
  | nil j =>
    intro i c b st w KN KX KR a aw hd hn hv hs hw
    cases c <;> try exact hv.elim
    · exact wp_skip ⟨j, st, w, hv, hs, hw⟩
    · exact wp_exit ⟨j, st, w, hv, hs, hw⟩
    · exact wp_label ⟨j, st, w, hv, hs, hw⟩
    · exact wp_ret ⟨0, st, w, hv, hs, hw⟩
  | seq h1 h2 ih1 ih2 =>
    intro i c b st w KN KX KR a aw hd hn hv hs hw
    cases c <;> try exact hv.elim
    rename_i c1 c2
    simp only [dstOk, noSel, Bool.and_eq_true] at hd hn
    refine wp_seq (wp_mono (ih1 0 c1 b st w _ KX KR a aw hd.1 hn.1 hv hs hw) ?_)
    intro e a' w' hq
    cases e with
    | normal =>
      obtain ⟨j, st', w2, h3, h4, h5⟩ := hq
      exact ih2 j c2 b st' w2 KN KX KR a' w' hd.2 hn.2 h3 h4 h5
    | exit i => exact hq
    | ret => exact hq
    | goto l => exact hq.elim
    | panic ch => exact hq.elim
    | outgrown => exact hq.elim
  | cond lit h1 h2 ih1 ih2 =>
    intro i c b st w KN KX KR a aw hd hn hv hs hw
    cases c <;> try exact hv.elim
    rename_i c c1 c2
    simp only [dstOk, noSel, Bool.and_eq_true] at hd hn
    obtain ⟨v, h3, h4⟩ := rdV_spec hv hs.tmp
    split at h3
    · rename_i β
      have h4 := h4 trivial
      split at h3
      · refine wp_cond_split h4 (fun hb => ?_) (fun hb => ?_)
        · exact ih1 0 c1 b st w KN KX KR a aw hd.1 hn.1 (h3.1 hb) hs hw
        · exact ih2 0 c2 b st w KN KX KR a aw hd.2 hn.2 (h3.2 hb) hs hw
      · split at h3
        · exact wp_cond_true h4 (ih1 0 c1 b st w KN KX KR a aw hd.1 hn.1 h3 hs hw)
        · exact wp_cond_false h4 (ih2 0 c2 b st w KN KX KR a aw hd.2 hn.2 h3 hs hw)
    · exact h3.elim
  | block h1 ih1 =>
    intro i c b st w KN KX KR a aw hd hn hv hs hw
    cases c <;> try exact hv.elim
    rename_i id c
    refine wp_block (wp_mono (ih1 0 c b st w _ _ KR a aw hd hn hv hs hw) ?_)
    intro e a' w' hq
    cases e with
    | normal => exact hq
    | exit i =>
      obtain ⟨j, st', w2, h3, h4⟩ := hq
      simp only [Exit.inBlock]
      split at h3
      · rename_i hb
        rw [if_pos (Nat.eq_of_beq_eq_true hb)]
        exact ⟨j, st', w2, h3, h4⟩
      · rename_i hb
        rw [if_neg (fun he => by rw [he, Nat.beq_refl] at hb; cases hb)]
        exact ⟨j, st', w2, h3, h4⟩
    | ret => exact hq
    | goto l => exact hq
    | panic ch => exact hq
    | outgrown => exact hq
  | reg r =>
    intro i c b st w KN KX KR a aw hd hn hv hs hw
    cases c <;> try exact hv.elim
    rename_i id ops draw
    cases draw with
    | true => exact hv.elim
    | false =>
      have := vcSeq_sound hT hF (dstsOk_of hd) (Q := QQ n b KN KX KR) (K := KN) (fun a aw h => h) r ops.toList 0 st w a aw (by simp) hv hs hw
      refine wp_region ?_
      rw [List.range_eq_range']
      simpa using this
  | draw m ids r =>
    intro i c b st w KN KX KR a aw hd hn hv hs hw
    cases c <;> try exact hv.elim
    rename_i id ops draw
    cases draw with
    | false => exact hv.elim
    | true =>
      have hs1 : Sim n (allE b st) (allB b st) a aw.drew := hs.same fun _ _ => rfl
      have hw1 : WR b { st with dirty := true } w aw.drew := ⟨⟨hw.1.os, hw.1.tape, hw.1.output, hw.1.size, hw.1.keep⟩, fun h => by cases h⟩
      have hv1 := sync_spec hv hw1 fun x hx => hs.lt hx
      have main : ∀ M : Option (Nat → Prop), vcDraw P tab okF ops b aw.drew M ids (allB b st) r none (Array.replicate ops.size false) (clean st) aw.drew KN → (Code.region id ops true).wp P (QQ n b KN KX KR) a aw := by
        intro M h3
        have hD : DSt b n M ids (allB b st) aw.drew (clean st) aw.drew a aw.drew := ⟨hs1, WR.clean _, ⟨Fr.refl _ _, fun _ _ _ => rfl⟩, ⟨[], rfl, fun _ h => by cases h⟩⟩
        have h4 := vcDraw_sound hT hF (dstsOk_of hd) hn r none _ _ _ a aw.drew h3 hD
        dsimp only at h4
        rw [left_replicate] at h4
        refine wp_mono (wp_region_held (S := SC M ids (allB b st) aw.drew) (Q := QN (After n b KN)) hm h4) ?_
        intro e a' w' hq
        cases e <;> first | exact hq | exact hq.elim
      cases m with
      | false => exact main none hv1
      | true =>
        obtain ⟨M, h3⟩ := hv1
        exact main (some M) h3
  | loop trk jk h1 ih1 =>
    intro i c b st w KN KX KR a aw hd hn hv hs hw
    cases c <;> try exact hv.elim
    rename_i c
    obtain ⟨I, μ, h3, h4⟩ := hv
    obtain ⟨vs, h5, h6, h7⟩ := getL_spec h3
    obtain ⟨I0, h8, h9⟩ := app_spec h5
    have h8 := sync_spec h8 hw fun x hx => hs.lt hx
    have wf := hs.wf
    -- the head of a round
    have g0 := allL_app ((h9 fun I0 => I0 aw).2 h8) h4 aw
    have g0 := (h9 _).1 g0 h8
    obtain ⟨m0, _, h10⟩ := app_spec g0
    have hhead : Sim n (headE trk vs jk ++ allE b st) (allB b st) a aw := Sim.head (pre := []) (nb := []) hs rfl h6 h7 wf
    refine wp_loopN (fun m a aw => ∃ vs, Sim n (headE trk vs jk ++ allE b st) (allB b st) a aw ∧ app (kds trk) I vs (fun I0 => I0 aw) ∧ app (kds trk) μ vs (fun m0 => m0 aw = m)) ?_ (m0 aw) a aw ⟨vs, hhead, (h9 _).2 h8, (h10 _).2 rfl⟩
    · rintro m a aw ⟨vs, g1, g2, g3⟩
      have g4 := allL_app g2 h4 aw
      obtain ⟨I1, g5, g6⟩ := app_spec g2
      rw [g6] at g4
      have g4 := g4 g5
      obtain ⟨m0, g7, g8⟩ := app_spec g3
      rw [g8] at g4
      refine wp_mono (ih1 0 c _ _ aw _ _ _ a aw hd hn g4 (by simpa [allE, allB] using g1) ⟨Fr.refl _ _, fun _ => rfl⟩) ?_
      intro e a' w' hq
      cases e with
      | normal =>
        obtain ⟨j, st', w2, k1, k2, k3⟩ := hq
        split at k1
        · rename_i hk
          obtain ⟨vs', k4, k5, k6⟩ := getL_spec k1
          obtain ⟨I2, k7, k8⟩ := app_spec k4
          obtain ⟨m2, k9, k10⟩ := app_spec k7
          obtain ⟨k11, k12⟩ := sync_spec k9 k3 fun x hx => k2.lt hx
          refine ⟨m2 w', by rw [← g7]; exact k12, vs', ?_, (k8 _).2 k11, (k10 _).2 rfl⟩
          have e1 : allE ⟨headE trk vs jk ++ allE b st, allB b st⟩ st' = (st'.env ++ headE trk vs jk) ++ allE b st := by simp [allE]
          have hk2 : keysOk (trk.map (·.1) ++ jk) (allB b st) (st'.env ++ headE trk vs jk) = true := keysOk_append hk keysOk_headE
          refine Sim.head (pre := st'.env ++ headE trk vs jk) (nb := st'.nb) ?_ hk2 k5 ?_ wf
          · rw [← e1]; exact k2
          · rw [← e1]; exact k6
        · exact k1.elim
      | exit i => exact After.lift hq
      | ret => exact After.lift hq
      | goto l => exact hq.elim
      | panic ch => exact hq.elim
      | outgrown => exact hq.elim
  | cut trk jk j0 h1 ih1 =>
    intro i c b st w KN KX KR a aw hd hn hv hs hw
    have hv' : ∃ J : Inv (World → Prop) (kds trk),
      vc P tab okF h1 0 c ⟨allE b st, allB b st⟩ ⟨[], [], st.dirty⟩ w
        (fun _ st' w' => match keysOk (trk.map (·.1) ++ jk) (allB b st) st'.env with
          | true => getL (st'.env ++ allE b st) trk fun vs' => app (kds trk) J vs' fun J1 => sync ⟨allE b st, allB b st⟩ st' w' fun w' => J1 w'
          | false => False)
        (fun i j st' w' => KX i j { env := st'.env ++ st.env, nb := st'.nb ++ st.nb, dirty := st'.dirty } w')
        (fun st' w' => KR { env := st'.env ++ st.env, nb := st'.nb ++ st.nb, dirty := st'.dirty } w') ∧
      allL (kds trk) fun vs => ∀ w', app (kds trk) J vs fun J1 => J1 w' → KN j0 { env := headE trk vs jk ++ st.env, nb := st.nb, dirty := false } w' := by
      cases c <;> exact hv
    obtain ⟨J, h3, h4⟩ := hv'
    have wf := hs.wf
    refine wp_mono (ih1 0 c ⟨allE b st, allB b st⟩ ⟨[], [], st.dirty⟩ w _ _ _ a aw hd hn h3 (by simpa [allE, allB] using hs) (by unfold WR at hw ⊢; simpa [allB] using hw)) ?_
    intro e a' w' hq
    cases e with
    | normal =>
      obtain ⟨j, st', w2, k1, k2, k3⟩ := hq
      split at k1
      · rename_i hk
        obtain ⟨vs, k4, k5, k6⟩ := getL_spec k1
        obtain ⟨J1, k7, k8⟩ := app_spec k4
        have k9 := sync_spec k7 k3 fun x hx => k2.lt hx
        have g := allL_app ((k8 fun J1 => J1 w').2 k9) h4 w'
        refine ⟨j0, _, w', (k8 _).1 g k9, ?_, ⟨Fr.refl _ _, fun _ => rfl⟩⟩
        have e1 : allE b { env := headE trk vs jk ++ st.env, nb := st.nb, dirty := false } = headE trk vs jk ++ allE b st := by simp [allE]
        have e2 : allB b { env := headE trk vs jk ++ st.env, nb := st.nb, dirty := false } = allB b st := rfl
        rw [e1, e2]
        exact Sim.head (pre := st'.env) (nb := st'.nb) k2 hk k5 k6 wf
      · exact k1.elim
    | exit i => exact After.lift0 hq
    | ret => exact After.lift0 hq
    | goto l => exact hq.elim
    | panic ch => exact hq.elim
    | outgrown => exact hq.elim

/-! ### A function -/

def resOne (tmps : Array Value) : ResultVar → Sem Value
  | .tmp t => pure (tmps.getD t undef)
  | .cell c t => do loadVar t (← asAddr (tmps.getD c undef))

theorem results_eq (fn : Func) (tmps : Array Value) : results fn tmps = (do
    let vs ← fn.results.mapM (resOne tmps)
    pure (if h : vs.size = 1 then vs[0] else .tuple vs)) := by
  unfold results
  congr 1

theorem resVc_spec (hT : TabOk P tab) {b : Base} {w : World} : ∀ {rs : List ResultVar} {st : St} {K : List Value → St → World → Prop} {a : Act} {aw : World}, resVc tab b w rs st K → Sim n (allE b st) (allB b st) a aw →
    ∃ vs, K vs st w ∧ vs.length = rs.length ∧ (rs.mapM (resOne a.tmps)).run P aw = .ok vs aw
  | [], st, K, a, aw, h, hs => ⟨[], h, rfl, rfl⟩
  | .tmp t :: rs, st, K, a, aw, h, hs => by
    obtain ⟨v, h1, h2⟩ := rdV_spec h hs.tmp
    obtain ⟨vs, h3, h4, h5⟩ := resVc_spec hT h1 hs
    have h2 : a.tmps.getD t undef = v := h2 trivial
    refine ⟨v :: vs, h3, by simp [h4], ?_⟩
    simp only [List.mapM_cons, resOne, Sem.run_bind, Sem.run_pure, Result.andThen_ok, h5, h2]
  | .cell t ty :: rs, st, K, a, aw, h, hs => by
    obtain ⟨s, h1, h2⟩ := rd_spec h hs.tmp
    split at h1
    · rename_i k o
      obtain ⟨s, h3, h4⟩ := boxLoad_spec (P := P) hT h1 hs.box
      obtain ⟨v, h5, h6⟩ := h4 trivial
      split at h3
      · rename_i u
        obtain rfl : v = u := h5
        obtain ⟨vs, h7, h8, h9⟩ := resVc_spec hT h3 hs
        have h10 := h6 aw (fun _ _ _ => rfl) _ (h2 trivial)
        obtain ⟨x, _, hx⟩ := h2 trivial
        have hx : a.tmps.getD t undef = .pointer (some ⟨x.b, o, none⟩) := hx
        rw [show a.eval (.tmp t) = a.tmps.getD t undef from rfl, hx] at h10
        have h11 : (loadVar ty ⟨x.b, o, none⟩).run P aw = .ok v aw := by
          simpa [Instr.loadAt, Instr.sureAddr] using h10
        refine ⟨v :: vs, h7, by simp [h8], ?_⟩
        have e : resOne a.tmps (.cell t ty) = loadVar ty ⟨x.b, o, none⟩ := by simp only [resOne, hx]; rfl
        simp only [List.mapM_cons, e, Sem.run_bind, Sem.run_pure, Result.andThen_ok, h11, h9]
      · exact h3.elim
    · exact h1.elim

theorem results_run {fn : Func} {tmps : Array Value} {aw : World} {vs : List Value} (h : (fn.results.toList.mapM (resOne tmps)).run P aw = .ok vs aw) : (results fn tmps).run P aw = .ok (one vs) aw := by
  rw [results_eq]
  simp only [Sem.run_bind]
  rw [Array.mapM_eq_mapM_toList, Sem.run_map]
  rw [h]
  simp only [Result.andThen_ok, Sem.run_pure]
  congr 1
  match vs with
  | [] => rfl
  | [v] => rfl
  | v :: u :: r => simp [one]

theorem Sim.args {args : List Value} {w : World} (hl : args.length ≤ n) : Sim n (argE 0 args) [] { tmps := args.toArray ++ Array.replicate (n - args.toArray.size) undef, defers := [] } w := by
  have key : ∀ (args : List Value) (i t : Nat), find (0, t) (argE i args) = if i ≤ t ∧ t < i + args.length then ⟨none, .v (args.getD (t - i) undef)⟩ else ⟨none, .junk⟩ := by
    intro args
    induction args with
    | nil => intro i t; rw [if_neg (by simp)]; rfl
    | cons v r ih =>
      intro i t
      simp only [argE, find_cons, ih, List.length_cons]
      by_cases h : i = t
      · subst h; rw [if_pos rfl, if_pos (by omega)]; simp
      · rw [if_neg (by simpa using h)]
        by_cases h2 : i + 1 ≤ t ∧ t < i + 1 + r.length
        · rw [if_pos h2, if_pos (by omega), show t - i = (t - (i + 1)) + 1 from by omega]; simp
        · rw [if_neg h2, if_neg (by omega)]
  refine ⟨rfl, by simp; omega, fun t => ?_, fun x hx => (by cases hx), (by simp), (by simp)⟩
  rw [key]
  split
  · rename_i h
    have : (args.toArray ++ Array.replicate (n - args.toArray.size) undef).getD t undef = args.getD (t - 0) undef := by
      simp only [Array.getD_eq_getD_getElem?, List.getD_eq_getElem?_getD, Nat.sub_zero]
      rw [Array.getElem?_append_left (by simp; omega)]
      simp
    rw [this]; exact RelE.v
  · exact RelE.junk

theorem fn_sound (hm : P.follows .mixedOrders = true) (hT : TabOk P tab) (hF : ∀ f, okF f = true → Callee P f) {f : FuncId} {fn : Func} (hf : P.funcs[f]? = some fn) (hsel : ∀ c, fn.body = some c → noSel c = true)
    {h : H} {args : List Value} (hl : args.length ≤ fn.ntmps) {w : World} {R : Value → World → Prop} (hv : vcFn P tab okF fn h args w R) :
    Calls P f args.toArray w fun e w' => ∃ v, e = .returned v ∧ R v w' := by
  unfold vcFn at hv
  split at hv
  · rename_i c hc
    split at hv
    · rename_i hd
      refine calls_of_wp hf hc ?_
      have hs : Sim fn.ntmps (allE ⟨[], []⟩ ⟨argE 0 args, [], false⟩) (allB ⟨[], []⟩ ⟨argE 0 args, [], false⟩) { tmps := args.toArray ++ Array.replicate (fn.ntmps - args.toArray.size) undef, defers := [] } w := by
        have := Sim.args (w := w) hl
        simpa [allE, allB] using this
      have := vc_sound hm hT hF h 0 c ⟨[], []⟩ ⟨argE 0 args, [], false⟩ w _ _ _ _ w hd (hsel c hc) hv hs ⟨Fr.refl _ _, fun _ => rfl⟩
      refine wp_mono this ?_
      intro e a aw hq
      have fin : After fn.ntmps ⟨[], []⟩ (fun _ st w => resVc tab ⟨[], []⟩ w fn.results.toList st fun vs st w => sync ⟨[], []⟩ st w fun w' => R (one vs) w') a aw →
          a.defers = [] ∧ ∃ v, (results fn a.tmps).run P aw = .ok v aw ∧ (fun e w' => ∃ v, e = .returned v ∧ R v w') (Ending.returned v) aw := by
        rintro ⟨_, st, w2, h1, h2, h3⟩
        obtain ⟨vs, h4, _, h5⟩ := resVc_spec hT h1 h2
        exact ⟨h2.defers, _, results_run h5, _, rfl, sync_spec h4 h3 fun x hx => h2.lt hx⟩
      cases e with
      | normal => exact fin hq
      | ret => exact fin hq
      | exit i => obtain ⟨_, _, _, h1, _⟩ := hq; exact h1.elim
      | goto l => exact hq.elim
      | panic ch => exact hq.elim
      | outgrown => exact hq.elim
    · exact hv.elim
  · exact hv.elim

theorem fn_calls (hm : P.follows .mixedOrders = true) (hT : TabOk P tab) (hF : ∀ f, okF f = true → Callee P f) {f : FuncId} {fn : Func} (hf : P.funcs[f]? = some fn) (hsel : (fn.body.map noSel).getD true = true)
    {h : H} {args : List Value} (hl : Nat.ble args.length fn.ntmps = true) {w : World} {R : Value → World → Prop} (hv : vcFn P tab okF fn h args w R) :
    Calls P f args.toArray w fun e w' => ∃ v, e = .returned v ∧ R v w' :=
  fn_sound hm hT hF hf (fun c hc => by rw [hc] at hsel; exact hsel) (Nat.le_of_ble_eq_true hl) hv
end
end Go.Vc
