/-
  The verification conditions of a piece of code, reckoned by a function, with local variables that do not escape kept out of the world. Definitions alone; VcSound proves them sound.
-/
import Derived.OrdersHeld
import Derived.Calls
import Derived.Laws.World
import Derived.Laws.Sem
namespace Go.Vc

/-- w' is w with more blocks, and with changes to blocks of M alone. -/
structure Fr (M : Nat → Prop) (w w' : World) : Prop where
  os : w'.os = w.os
  tape : w'.tape = w.tape
  output : w'.output = w.output
  size : w.heap.size ≤ w'.heap.size
  keep : ∀ b, b < w.heap.size → ¬ M b → w'.heap[b]? = w.heap[b]?

/-- What is known of a temporary or of a hidden variable's cell: a value; a pointer into a hidden variable; nothing. -/
inductive SV where
  | v (x : Value)
  | bx (k off : Nat)
  | junk

/-- 's' holds where 'x' is true (none: always). -/
structure Ent where
  x : Option Bool
  s : SV

/-- A temporary: (0, t); a cell of hidden variable k: (k + 1, off). -/
abbrev Key := Nat × Nat
abbrev Env := List (Key × Ent)

/-- A hidden variable: its name, its block, its cells' number. -/
structure Bx where
  id : Nat
  b : Nat
  n : Nat

def keyEq (a b : Key) : Bool := Nat.beq a.1 b.1 && Nat.beq a.2 b.2

def find (k : Key) : Env → Ent
  | [] => ⟨none, .junk⟩
  | (k', e) :: r => match keyEq k' k with
    | true => e
    | false => find k r

def hasKey (k : Key) : List Key → Bool
  | [] => false
  | k' :: r => match keyEq k' k with
    | true => true
    | false => hasKey k r

def hasId (k : Nat) : List Bx → Bool
  | [] => false
  | x :: r => match Nat.beq x.id k with
    | true => true
    | false => hasId k r

def findBx (k : Nat) : List Bx → Option Bx
  | [] => none
  | x :: r => match Nat.beq x.id k with
    | true => some x
    | false => findBx k r

/-- Kinds of one cell. -/
inductive Kd where
  | int (k : IntKind)
  | bool | str | ptr | slice | val

/-- What is known of a type. -/
structure TI where
  desc : TypeDesc
  size : Nat
  bytes : Nat
  zero : List Value
  kd : Kd
  cells : List Kd

/-- 'There is a value of this kind such that'. -/
def exK : Kd → (Value → Prop) → Prop
  | .int k, F => ∃ n : Int, F (.int k n)
  | .bool, F => ∃ b : Bool, F (.bool b)
  | .str, F => ∃ s : ByteArray, F (.string s)
  | .ptr, F => ∃ p : Option Addr, F (.pointer p)
  | .slice, F => ∃ (a : Option Addr) (l c : Nat), F (.slice a l c)
  | .val, F => ∃ v : Value, F v

def exL : List Kd → (List Value → Prop) → Prop
  | [], F => F []
  | k :: ks, F => exK k fun v => exL ks fun vs => F (v :: vs)

def allK : Kd → (Value → Prop) → Prop
  | .int k, F => ∀ n : Int, F (.int k n)
  | .bool, F => ∀ b : Bool, F (.bool b)
  | .str, F => ∀ s : ByteArray, F (.string s)
  | .ptr, F => ∀ p : Option Addr, F (.pointer p)
  | .slice, F => ∀ (a : Option Addr) (l c : Nat), F (.slice a l c)
  | .val, F => ∀ v : Value, F v

def allL : List Kd → (List Value → Prop) → Prop
  | [], F => F []
  | k :: ks, F => allK k fun v => allL ks fun vs => F (v :: vs)

/-- A function of values of these kinds. -/
def Inv (R : Type) : List Kd → Type
  | [] => R
  | .int _ :: ks => Int → Inv R ks
  | .bool :: ks => Bool → Inv R ks
  | .str :: ks => ByteArray → Inv R ks
  | .ptr :: ks => Option Addr → Inv R ks
  | .slice :: ks => Option Addr → Nat → Nat → Inv R ks
  | .val :: ks => Value → Inv R ks

def kindEq : IntKind → IntKind → Bool
  | .i8, .i8 | .i16, .i16 | .i32, .i32 | .i64, .i64 | .u8, .u8 | .u16, .u16 | .u32, .u32 | .u64, .u64 => true
  | _, _ => false

/-- Handed its values; F of what comes out; False where they are of other kinds. -/
def app {R : Type} : (ks : List Kd) → Inv R ks → List Value → (R → Prop) → Prop
  | [], I, [], F => F I
  | .int k :: ks, I, .int k' n :: vs, F => match kindEq k k' with
    | true => app ks (I n) vs F
    | false => False
  | .bool :: ks, I, .bool b :: vs, F => app ks (I b) vs F
  | .str :: ks, I, .string s :: vs, F => app ks (I s) vs F
  | .ptr :: ks, I, .pointer p :: vs, F => app ks (I p) vs F
  | .slice :: ks, I, .slice a l c :: vs, F => app ks (I a l c) vs F
  | .val :: ks, I, v :: vs, F => app ks (I v) vs F
  | _, _, _, _ => False

/-- An operand's entry is asked for under 'x' (none: outright). -/
def need (x : Option Bool) (e : Ent) (K : SV → Prop) : Prop :=
  match e.x with
  | none => K e.s
  | some y => (match x with | none => y = true | some x => x = true → y = true) ∧ K e.s

/-- An entry is asked for under 'x' and 'hyp'. -/
def needC (x : Option Bool) (hyp : Prop) (e : Ent) (K : SV → Prop) : Prop :=
  match e.x with
  | none => K e.s
  | some y => (match x with | none => hyp → y = true | some x => x = true → hyp → y = true) ∧ K e.s

/-- A condition under 'x'. -/
def side (x : Option Bool) (p : Prop) (K : Prop) : Prop :=
  match x with
  | none => p ∧ K
  | some x => (x = true → p) ∧ K

def rd (env : Env) (x : Option Bool) (y : Operand) (K : SV → Prop) : Prop :=
  match y with
  | .tmp t => need x (find (0, t) env) K
  | .const v => K (.v v)
  | .global g => K (.v (.pointer (some ⟨g, 0, none⟩)))
  | .func f => K (.v (.func (.func f) #[] #[]))

def pickEnt (env : Env) (y : Operand) (K : Ent → Prop) : Prop :=
  match y with
  | .tmp t => K (find (0, t) env)
  | .const v => K ⟨none, .v v⟩
  | _ => False

def rdV (env : Env) (x : Option Bool) (y : Operand) (K : Value → Prop) : Prop :=
  rd env x y fun s => match s with
    | .v v => K v
    | _ => False

def rdL (env : Env) (x : Option Bool) : List Operand → (List Value → Prop) → Prop
  | [], K => K []
  | y :: ys, K => rdV env x y fun v => rdL env x ys fun vs => K (v :: vs)

def rdO (env : Env) (x : Option Bool) : Option Operand → (Option Value → Prop) → Prop
  | none, K => K none
  | some y, K => rdV env x y fun v => K (some v)

def intVc (x : Option Bool) (op : BinOp) (k : IntKind) (a b : Int) (K : Value → Prop) : Prop :=
  match op with
  | .add => K (.int k (k.wrap (a + b)))
  | .sub => K (.int k (k.wrap (a - b)))
  | .mul => K (.int k (k.wrap (a * b)))
  | .quo => side x (b ≠ 0) (K (.int k (k.wrap (a.tdiv b))))
  | .rem => side x (b ≠ 0) (K (.int k (a.tmod b)))
  | .and => K (.int k (k.wrap (BitVec.ofInt k.bits a &&& BitVec.ofInt k.bits b).toNat))
  | .or => K (.int k (k.wrap (BitVec.ofInt k.bits a ||| BitVec.ofInt k.bits b).toNat))
  | .xor => K (.int k (k.wrap (BitVec.ofInt k.bits a ^^^ BitVec.ofInt k.bits b).toNat))
  | .andNot => K (.int k (k.wrap (BitVec.ofInt k.bits a &&& ~~~ BitVec.ofInt k.bits b).toNat))
  | .eql => K (.bool (a == b))
  | .neq => K (.bool (a != b))
  | .lss => K (.bool (decide (a < b)))
  | .leq => K (.bool (decide (a ≤ b)))
  | .gtr => K (.bool (decide (a > b)))
  | .geq => K (.bool (decide (a ≥ b)))
  | _ => False

def strVc (x : Option Bool) (op : BinOp) (a b : ByteArray) (K : Value → Prop) : Prop :=
  match op with
  | .add => side x (((a.size + b.size : Nat) : Int) ≤ 9223372036854775807) (K (.string (a ++ b)))
  | .eql => K (.bool (a.toList == b.toList))
  | .neq => K (.bool (!(a.toList == b.toList)))
  | .lss => K (.bool (Op.bytesLess a.toList b.toList))
  | .leq => K (.bool (Op.bytesLess a.toList b.toList || a.toList == b.toList))
  | .gtr => K (.bool (!(Op.bytesLess a.toList b.toList || a.toList == b.toList)))
  | .geq => K (.bool (!(Op.bytesLess a.toList b.toList)))
  | _ => False

abbrev Tab := Nat → Option TI

def binVc (tab : Tab) (x : Option Bool) (op : BinOp) (t : TypeId) (a b : Value) (K : Value → Prop) : Prop :=
  match op, a, b with
  | .shl, .int k m, .int _ n => side x (0 ≤ n) (K (.int k (k.wrap (m * 2 ^ (min n.toNat k.bits)))))
  | .shr, .int k m, .int _ n => side x (0 ≤ n) (K (.int k (m.fdiv (2 ^ (min n.toNat k.bits)))))
  | op, .int k m, .int k' n => match kindEq k k' with
    | true => intVc x op k m n K
    | false => False
  | op, .string s, .string u => strVc x op s u K
  | .eql, .bool c, .bool d => match tab t with
    | some { desc := .bool, .. } => K (.bool (c == d))
    | _ => False
  | .neq, .bool c, .bool d => match tab t with
    | some { desc := .bool, .. } => K (.bool (!(c == d)))
    | _ => False
  | .eql, .pointer p, .pointer none => match tab t with
    | some { desc := .pointer _, .. } => K (.bool p.isNone)
    | _ => False
  | .neq, .pointer p, .pointer none => match tab t with
    | some { desc := .pointer _, .. } => K (.bool (!p.isNone))
    | _ => False
  | _, _, _ => False

/-- The cells of a value that is written out. -/
def cellsOf : Value → List Value
  | .agg cs => cs.toList
  | v => [v]

/-- Entries of cells i, i + 1, .. of variable k. -/
def cellEnts (k : Nat) (x : Option Bool) : Nat → List Value → Env
  | _, [] => []
  | i, v :: vs => ((k, i), ⟨x, .v v⟩) :: cellEnts k x (i + 1) vs

/-- n cells of variable k from off on, as values. -/
def boxCells (env : Env) (x : Option Bool) (k : Nat) : (off n : Nat) → (List Value → Prop) → Prop
  | _, 0, K => K []
  | off, n + 1, K => need x (find (k, off) env) fun s => match s with
    | .v v => boxCells env x k (off + 1) n fun vs => K (v :: vs)
    | _ => False

def isAggB : TypeDesc → Bool
  | .struct _ | .array _ _ => true
  | _ => false

/-- A load out of a hidden variable. -/
def boxLoad (tab : Tab) (env : Env) (bs : List Bx) (x : Option Bool) (t : TypeId) (k off : Nat) (K : SV → Prop) : Prop :=
  match tab t with
  | none => False
  | some i => match findBx k bs with
    | none => False
    | some bx => match isAggB i.desc with
      | true => match Nat.ble (off + i.size) bx.n with
        | true => boxCells env x (k + 1) off i.size fun vs => K (.v (.agg vs.toArray))
        | false => False
      | false => match Nat.ble (off + 1) bx.n with
        | true => need x (find (k + 1, off) env) K
        | false => False

/-- 'slice' of a string or of a slice value, with bounds. -/
def sliceVc (tab : Tab) (x : Option Bool) (t : TypeId) (v : Value) (lo hi : Option Value) (K : Value → Prop) : Prop :=
  match tab t with
  | some { desc := .string, .. } => match v with
    | .string s => match lo, hi with
      | none, none => K (.string (s.extract 0 s.size))
      | some (.int _ l), none => side x (0 ≤ l ∧ l ≤ (s.size : Int)) (K (.string (s.extract l.toNat s.size)))
      | none, some (.int _ h) => side x (0 ≤ h ∧ h ≤ (s.size : Int)) (K (.string (s.extract 0 h.toNat)))
      | some (.int _ l), some (.int _ h) => side x (0 ≤ l ∧ l ≤ h ∧ h ≤ (s.size : Int)) (K (.string (s.extract l.toNat h.toNat)))
      | _, _ => False
    | _ => False
  | some { desc := .slice e, .. } => match tab e, v with
    | some ei, .slice a len cap => match lo, hi with
      | none, none => K (.slice (if cap = 0 then a else a.map (·.add (0 * ei.size))) (len - 0) (cap - 0))
      | some (.int _ l), none => side x (0 ≤ l ∧ l ≤ (len : Int)) (K (.slice (if cap = l.toNat then a else a.map (·.add (l.toNat * ei.size))) (len - l.toNat) (cap - l.toNat)))
      | none, some (.int _ h) => side x (0 ≤ h ∧ h ≤ (cap : Int)) (K (.slice (if cap = 0 then a else a.map (·.add (0 * ei.size))) (h.toNat - 0) (cap - 0)))
      | some (.int _ l), some (.int _ h) => side x (0 ≤ l ∧ l ≤ h ∧ h ≤ (cap : Int)) (K (.slice (if cap = l.toNat then a else a.map (·.add (l.toNat * ei.size))) (h.toNat - l.toNat) (cap - l.toNat)))
      | _, _ => False
    | _, _ => False
  | _ => False

def splice (off : Nat) (new cells : List Value) : List Value := cells.take off ++ (new ++ cells.drop (off + new.length))

def fillL (place : Nat → Option (Nat × Nat)) (cells : List Value) : List (Nat × Value) → Option (List Value)
  | [] => some cells
  | (i, v) :: rest => match place i with
    | none => none
    | some (off, size) => match Nat.beq (cellsOf v).length size && Nat.ble (off + (cellsOf v).length) cells.length with
      | true => fillL place (splice off (cellsOf v) cells) rest
      | false => none

/-- A struct's field: its place and its type. -/
def fieldOf (fs : Array Field) (f : Nat) : Option (Nat × TypeId) := (fs.toList[f]?).map fun x => (x.offset, x.type)

def pureVc (tab : Tab) (env : Env) (bs : List Bx) (x : Option Bool) (m : Nat) (op : Op) (K : SV → Prop) : Prop :=
  match op with
  | .move y | .assign y => rd env x y K
  | .pick c a b => rdV env x c fun c => match c with
    | .bool c => match m with
      | 0 => pickEnt env a fun a => pickEnt env b fun b => needC x (c = true) a fun a => needC x (c = false) b fun b => match a, b with
        | .v (.bool α), .v (.bool β) => K (.v (.bool (cond c α β)))
        | _, _ => False
      | 1 => match c with
        | true => rd env x a K
        | false => rd env x b K
      | _ => False
    | _ => False
  | .fieldAddr s y f => match tab s with
    | some { desc := .struct fs, .. } => match fieldOf fs f with
      | some (off, ft) => match tab ft with
        | some { size := .succ _, .. } => rd env x y fun s => match s with
          | .bx k o => K (.bx k (o + off))
          | .v (.pointer (some a)) => K (.v (.pointer (some (a.add off))))
          | _ => False
        | _ => False
      | none => False
    | _ => False
  | .nilCheck y => rd env x y fun s => match s with
    | .bx k o => K (.bx k o)
    | .v (.pointer p) => match m with
      | 0 => match p with
        | some a => K (.v (.pointer (some a)))
        | none => False
      | _ => match x with
        | none => ∃ a, p = some a ∧ K (.v (.pointer (some a)))
        | some x => ∃ a, (x = true → p = some a) ∧ K (.v (.pointer (some a)))
    | .v (.func (.func f) u c) => K (.v (.func (.func f) u c))
    | _ => False
  | .binOp op t a b _ => rdV env x a fun a => rdV env x b fun b => binVc tab x op t a b fun v => K (.v v)
  | .unOp op _ a => rdV env x a fun a => match op, a with
    | .not, .bool b => K (.v (.bool (!b)))
    | .neg, .int k n => K (.v (.int k (k.wrap (0 - n))))
    | .xor, .int k n => K (.v (.int k (k.wrap (BitVec.ofInt k.bits (if k.signed then -1 else k.max) ^^^ BitVec.ofInt k.bits n).toNat)))
    | _, _ => False
  | .convert s d a => rdV env x a fun a => match tab s, tab d with
    | some { desc := .int _, .. }, some { desc := .int k, .. } => match a with
      | .int _ n => K (.v (.int k (k.wrap n)))
      | _ => False
    | some { desc := .string, .. }, some { desc := .string, .. } => match a with
      | .string s => K (.v (.string s))
      | _ => False
    | _, _ => False
  | .indexAddr t y i => rdV env x i fun i => match i with
    | .int _ n => match tab t with
      | some { desc := .slice e, .. } => match tab e with
        | some ei => rdV env x y fun v => match v with
          | .slice base len _ => match m with
            | 0 => match base with
              | some a => side x (0 ≤ n ∧ n < (len : Int)) (K (.v (.pointer (some (a.add (n.toNat * ei.size))))))
              | none => False
            | _ => match x with
              | none => ∃ a, base = some a ∧ (0 ≤ n ∧ n < (len : Int)) ∧ K (.v (.pointer (some (a.add (n.toNat * ei.size)))))
              | some x => ∃ a, (x = true → base = some a ∧ (0 ≤ n ∧ n < (len : Int))) ∧ K (.v (.pointer (some (a.add (n.toNat * ei.size)))))
          | _ => False
        | none => False
      | some { desc := .array len e, .. } => match tab e with
        | some ei => rd env x y fun s => match s with
          | .bx k o => side x (0 ≤ n ∧ n < (len : Int)) (K (.bx k (o + n.toNat * ei.size)))
          | .v (.pointer (some a)) => side x (0 ≤ n ∧ n < (len : Int)) (K (.v (.pointer (some (a.add (n.toNat * ei.size))))))
          | _ => False
        | none => False
      | _ => False
    | _ => False
  | .index t y i => rdV env x y fun v => rdV env x i fun i => match i with
    | .int _ n => match tab t, v with
      | some { desc := .string, .. }, .string s => match x with
        | none => ∃ c : UInt8, (0 ≤ n ∧ s[n.toNat]? = some c) ∧ K (.v (.int .u8 c.toNat))
        | some x => ∃ c : UInt8, (x = true → 0 ≤ n ∧ s[n.toNat]? = some c) ∧ K (.v (.int .u8 c.toNat))
      | _, _ => False
    | _ => False
  | .slice t y lo hi none => rdV env x y fun v => rdO env x lo fun lo => rdO env x hi fun hi => sliceVc tab x t v lo hi fun v => K (.v v)
  | .build t ps => match tab t with
    | some { desc := .struct fs, zero := z, .. } => match fs.toList.all fun f => (tab f.type).isSome with
      | true => rdL env x (ps.toList.map (·.2)) fun vs =>
        match fillL (fun i => (fieldOf fs i).bind fun (off, ft) => (tab ft).map fun ti => (off, ti.size)) z ((ps.toList.map (·.1)).zip vs) with
        | some cells => K (.v (.agg cells.toArray))
        | none => False
      | false => False
    | some { desc := .array _ e, zero := z, .. } => match tab e with
      | some ei => rdL env x (ps.toList.map (·.2)) fun vs =>
        match fillL (fun i => some (i * ei.size, ei.size)) z ((ps.toList.map (·.1)).zip vs) with
        | some cells => K (.v (.agg cells.toArray))
        | none => False
      | none => False
    | _ => False
  | .extract y i => rdV env x y fun v => match v with
    | .tuple vs => match vs.toList[i]? with
      | some v => K (.v v)
      | none => False
    | _ => False
  | .makeFunc fn fs cs => rdL env x fs.toList fun fs => rdL env x cs.toList fun cs => K (.v (.func fn fs.toArray cs.toArray))
  | .call { callee := .builtin .len, args := as, argTypes := ts } => match as.toList, ts.toList with
    | [y], [t] => rdV env x y fun v => match tab t with
      | some { desc := .string, .. } => match v with
        | .string s => K (.v (.int .i64 s.size))
        | _ => False
      | some { desc := .slice _, .. } => match v with
        | .slice _ l _ => K (.v (.int .i64 l))
        | _ => False
      | _ => False
    | _, _ => False
  | .load t y => match y with
    | .tmp y => match (find (0, y) env).s with
      | .bx k o => need x (find (0, y) env) fun _ => boxLoad tab env bs x t k o K
      | _ => False
    | _ => False
  | _ => False

/-! ### The state, the world -/

/-- What has been laid since the base: entries, hidden variables; 'dirty': the world at hand is not the run's own, but for hidden variables' cells and new hidden variables. -/
structure St where
  env : Env
  nb : List Bx
  dirty : Bool

structure Base where
  env : Env
  bs : List Bx

def allE (b : Base) (st : St) : Env := st.env ++ b.env
def allB (b : Base) (st : St) : List Bx := st.nb ++ b.bs

def setE (st : St) (d : Option Tmp) (e : Ent) : St :=
  match d with
  | some t => { st with env := ((0, t), e) :: st.env }
  | none => st

def putE (env : Env) (d : Option Tmp) (e : Ent) : Env :=
  match d with
  | some t => ((0, t), e) :: env
  | none => env

def orEq (b : Nat) : List Bx → Prop
  | [] => False
  | x :: xs => match xs with
    | [] => b = x.b
    | xs => b = x.b ∨ orEq b xs

def allNe (b : Nat) : List Bx → Prop → Prop
  | [], K => K
  | x :: xs, K => b ≠ x.b → allNe b xs K

def andNe (b : Nat) : List Bx → Prop → Prop
  | [], K => K
  | x :: xs, K => b ≠ x.b ∧ andNe b xs K

def presv (w w' : World) : List Bx → Prop → Prop
  | [], K => K
  | x :: xs, K => (x.b < w.heap.size → w'.heap[x.b]? = w.heap[x.b]?) ∧ presv w w' xs K

/-- The hidden variables' blocks are there. -/
def allLt (w : World) : List Bx → Prop → Prop
  | [], K => K
  | x :: xs, K => x.b < w.heap.size → allLt w xs K

def sync (b : Base) (st : St) (w : World) (F : World → Prop) : Prop :=
  match st.dirty with
  | false => F w
  | true => ∀ w', Fr (fun k => orEq k (allB b st)) w w' → allLt w' (allB b st) (F w')

def clean (st : St) : St := { st with dirty := false }

/-- A value of a type. -/
def valK (i : TI) (F : Value → Prop) : Prop :=
  match isAggB i.desc with
  | true => exL i.cells fun vs => F (.agg vs.toArray)
  | false => exK i.kd F

def valsK (tab : Tab) : List TypeId → (List Value → Prop) → Prop
  | [], F => F []
  | t :: ts, F => match tab t with
    | some i => valK i fun v => valsK tab ts fun vs => F (v :: vs)
    | none => False

def resK (tab : Tab) (t : TypeId) (F : Value → Prop) : Prop :=
  match tab t with
  | some { desc := .tuple ts, .. } => valsK tab ts.toList fun vs => F (.tuple vs.toArray)
  | some i => valK i F
  | none => False

/-- A load out of memory. -/
def loadL (w : World) (a : Addr) : Nat → List Kd → (List Value → Prop) → Prop
  | _, [], F => F []
  | i, k :: ks, F => exK k fun v => w.cell? (a.add i) = some v ∧ loadL w a (i + 1) ks fun vs => F (v :: vs)

def loadVc (i : TI) (w : World) (a : Addr) (F : Value → Prop) : Prop :=
  match isAggB i.desc with
  | true => match Nat.beq i.cells.length i.size with
    | true => loadL w a 0 i.cells fun vs => F (.agg vs.toArray)
    | false => False
  | false => exK i.kd fun v => w.cell? a = some v ∧ F v

/-- A value of one cell (m = 2: its form is not seen). -/
def oneK (m : Nat) (v : Value) (K : Prop) : Prop :=
  match m with
  | 2 => v.oneCell' = true ∧ K
  | _ => match v with
    | .agg _ => False
    | .tuple _ => False
    | _ => K

def oneL (m : Nat) : List Value → Prop → Prop
  | [], K => K
  | v :: vs, K => oneK m v (oneL m vs K)

/-- A store into memory: cell i and on. -/
def storeL (a : Addr) : Nat → List Value → World → (World → Prop) → Prop
  | _, [], w, F => F w
  | i, v :: vs, w, F => (w.cell? (a.add i)).isSome = true ∧ w.frozen? (a.add i) = false ∧ storeL a (i + 1) vs (w.setCell (a.add i) v) F

def callVc (P : Program) (tab : Tab) (b : Base) (st : St) (f : FuncId) (args : List Value) (ty : TypeId) (w : World) (d : Option Tmp) (K : St → World → Prop) : Prop :=
  sync b st w fun w => Calls P f args.toArray w fun e w' => resK tab ty fun v => e = .returned v ∧ presv w w' (allB b st) (K (setE (clean st) d ⟨none, .v v⟩) w')

/-- What an operation that has no form of its own here does, as the model says it. -/
def semV (op : Op) (ty : TypeId) (vs : List Value) : Option (Sem Value) :=
  match op, vs with
  | .binOp o t x y _, [a, b] => some (do eqGuard o t x y a b; binOp o t a b)
  | .convert s d _, [a] => some (convert s d a)
  | .index t _ _, [a, b] => some (Instr.index t a b)
  | .lookup t _ _ ok, [a, b] => some (Instr.lookup t a b ok)
  | .makeMap t none, [] => some (Instr.makeMap t none)
  | .makeSlice t _ _, [a, b] => some (Instr.makeSlice t a b)
  | .range t _, [a] => some (Instr.range t a)
  | .next _ s, [a] => some (Instr.next a s ty)
  | .entry _, [a] => some (Instr.entry a)
  | .makeInterface t _, [a] => some (Instr.makeInterface t a)
  | .typeAssert _ t u ok, [a] => some (Instr.typeAssert a t u ok)
  | .field t _ f, [a] => some (Instr.field t a f)
  | .load t _, [a] => some (Instr.loadAt t a)
  | .slice t _ (some _) (some _) none, [a, l, h] => some (Instr.sliceAt t a (some l) (some h) none)
  | .slice t _ (some _) none none, [a, l] => some (Instr.sliceAt t a (some l) none none)
  | .slice t _ none (some _) none, [a, h] => some (Instr.sliceAt t a none (some h) none)
  | .slice t _ none none none, [a] => some (Instr.sliceAt t a none none none)
  | .slice t _ none (some _) (some _), [a, h, m] => some (Instr.sliceAt t a none (some h) (some m))
  | .slice t _ (some _) (some _) (some _), [a, l, h, m] => some (Instr.sliceAt t a (some l) (some h) (some m))
  | .call { callee := .builtin .append, argTypes := ts, .. }, vs => some (Builtin.append_ ts ty vs.toArray)
  | .call { callee := .builtin .cap, argTypes := ts, .. }, vs => some (Builtin.cap_ ts ty vs.toArray)
  | .call { callee := .builtin .copy, argTypes := ts, .. }, vs => some (Builtin.copy_ ts ty vs.toArray)
  | .call { callee := .builtin .delete, argTypes := ts, .. }, vs => some (Builtin.delete_ ts ty vs.toArray)
  | .call { callee := .builtin .clear, argTypes := ts, .. }, vs => some (Builtin.clear_ ts ty vs.toArray)
  | .call { callee := .builtin .len, argTypes := ts, .. }, vs => some (Builtin.len_ ts ty vs.toArray)
  | .call { callee := .builtin .max, argTypes := ts, .. }, vs => some (Builtin.max_ ts ty vs.toArray)
  | .call { callee := .builtin .min, argTypes := ts, .. }, vs => some (Builtin.min_ ts ty vs.toArray)
  | _, _ => none

def semU (op : Op) (vs : List Value) : Option (Sem Unit) :=
  match op, vs with
  | .mapUpdate t _ _ _, [a, b, c] => some (Instr.mapUpdate t a b c)
  | .insert t _ _ _, [a, b, c] => some (Instr.mapUpdate t a b c)
  | .store t _ _, [a, b] => some (Instr.storeAt t a b)
  | _, _ => none

def semOps : Op → List Operand
  | .binOp _ _ a b _ | .index _ a b | .lookup _ a b _ | .makeSlice _ a b | .store _ a b => [a, b]
  | .convert _ _ a | .range _ a | .next a _ | .entry a | .makeInterface _ a | .typeAssert a _ _ _ | .field _ a _ | .load _ a => [a]
  | .slice _ a lo hi mx => a :: (lo.toList ++ hi.toList ++ mx.toList)
  | .mapUpdate _ a b c | .insert _ a b c => [a, b, c]
  | .call c => c.args.toList
  | _ => []

/-- An operation that reads or turns the world. The Bool says whether it may have turned memory that is not hidden. Mode 9: by 'semV', 'semU'. -/
def opB (P : Program) (tab : Tab) (okF : FuncId → Bool) (b : Base) (st : St) (w : World) (m : Nat) (op : Op) (ty : TypeId) (d : Option Tmp) (K : Bool → St → World → Prop) : Prop :=
  match m with
  | 8 => pureVc tab (allE b st) (allB b st) none 0 op fun s => K false (setE st d ⟨none, s⟩) w
  | 9 => rdL (allE b st) none (semOps op) fun vs => match semV op ty vs with
    | some s => sync b st w fun w => resK tab ty fun v => ∃ w', s.run P w = .ok v w' ∧ presv w w' (allB b st) (K true (setE (clean st) d ⟨none, .v v⟩) w')
    | none => match semU op vs with
      | some s => sync b st w fun w => ∃ w', s.run P w = .ok () w' ∧ presv w w' (allB b st) (K true (setE (clean st) d ⟨none, .junk⟩) w')
      | none => False
  | m => match op with
    | .box t y => rdV (allE b st) none y fun v => match m with
      | 1 => match d with
        | some k => match hasId k (allB b st) with
          | false => ∀ bb, w.heap.size ≤ bb → allNe bb (allB b st) (K false { env := ((0, k), ⟨none, .bx k 0⟩) :: (cellEnts (k + 1) none 0 (cellsOf v) ++ st.env), nb := ⟨k, bb, (cellsOf v).length⟩ :: st.nb, dirty := true } w)
          | true => False
        | none => False
      | _ => sync b st w fun w => ∀ w', w' = w.alloc (.cells (cellsOf v).toArray t) → K true (setE (clean st) d ⟨none, .v (.pointer (some ⟨w.heap.size, 0, none⟩))⟩) w'
    | .alloc t => match tab t with
      | some i => match m with
        | 1 => match d with
          | some k => match hasId k (allB b st) with
            | false => ∀ bb, w.heap.size ≤ bb → allNe bb (allB b st) (K false { env := ((0, k), ⟨none, .bx k 0⟩) :: (cellEnts (k + 1) none 0 i.zero ++ st.env), nb := ⟨k, bb, i.zero.length⟩ :: st.nb, dirty := true } w)
            | true => False
          | none => False
        | _ => sync b st w fun w => ∀ w', w' = w.alloc (.cells i.zero.toArray t) → K true (setE (clean st) d ⟨none, .v (.pointer (some ⟨w.heap.size, 0, none⟩))⟩) w'
      | none => False
    | .buildSlice t len ps => match tab t with
      | some { desc := .slice e, .. } => match tab e with
        | some ei => rdL (allE b st) none (ps.toList.map (·.2)) fun vs =>
          match Nat.ble (len * ei.size) 65536, fillL (fun i => some (i * ei.size, ei.size)) (List.replicate len ei.zero).flatten ((ps.toList.map (·.1)).zip vs) with
          | true, some cells => sync b st w fun w => ∀ w', w' = w.alloc (.cells cells.toArray e) → K true (setE (clean st) d ⟨none, .v (.slice (some ⟨w.heap.size, 0, none⟩) len len)⟩) w'
          | _, _ => False
        | none => False
      | _ => False
    | .load t y => rdV (allE b st) none y fun v => match v, tab t with
      | .pointer (some a), some i => sync b st w fun w => loadVc i w a fun v => K false (setE (clean st) d ⟨none, .v v⟩) w
      | _, _ => False
    | .store t y z => rdV (allE b st) none z fun v => match tab t with
      | some i => match Nat.beq (cellsOf v).length i.size with
        | true => oneL m (cellsOf v) (rd (allE b st) none y fun s => match s with
          | .bx k o => match findBx k (allB b st) with
            | some bx => match Nat.ble (o + (cellsOf v).length) bx.n with
              | true => K false { st with env := putE (cellEnts (k + 1) none o (cellsOf v) ++ st.env) d ⟨none, .junk⟩, dirty := true } w
              | false => False
            | none => False
          | .v (.pointer (some a)) => andNe a.block (allB b st) (sync b st w fun w => storeL a 0 (cellsOf v) w fun w' => K true (setE (clean st) d ⟨none, .junk⟩) w')
          | _ => False)
        | false => False
      | none => False
    | .call { callee := .value (.func f), args := as, .. } => match okF f with
      | true => rdL (allE b st) none as.toList fun vs => callVc P tab b st f vs ty w d fun st w => K true st w
      | false => False
    | .call { callee := .value g, args := as, .. } => rdL (allE b st) none as.toList fun vs => rdV (allE b st) none g fun g => match m with
      | 0 => match g with
        | .func (.func f) u c => match okF f with
          | true => callVc P tab b st f (u.toList ++ (vs ++ c.toList)) ty w d fun st w => K true st w
          | false => False
        | _ => False
      | _ => ∃ f u c, g = .func (.func f) u c ∧ okF f = true ∧ callVc P tab b st f (u.toList ++ (vs ++ c.toList)) ty w d fun st w => K true st w
    | _ => False

/-! ### Regions -/

/-- How a region is gone through. -/
inductive RS where
  /-- the end; j: how it goes on -/
  | done (j : Nat)
  /-- number i, which reads nothing but temporaries and hidden variables -/
  | p (i m : Nat) (r : RS)
  /-- number i is left out -/
  | sk (i : Nat) (r : RS)
  /-- the next one's guard, which stands in temporary t, is parted -/
  | s (t : Tmp) (yes no : RS)
  /-- whether temporary t holds anything is parted -/
  | sy (t : Tmp) (yes no : RS)
  /-- number i: a load out of memory that is taken first (a region that draws) -/
  | l (i : Nat) (r : RS)
  /-- number i: any other -/
  | o (i m : Nat) (r : RS)
  /-- a region that draws: number i may come up now, and others -/
  | br (i m : Nat) (r more : RS)

def wantB : Bool → Bool → Bool
  | true, β => β
  | false, β => !β

/-- Whether an operation is carried out. -/
def guardX (all : List Oper) (o : Oper) (env : Env) (K : Option Bool → Prop) : Prop :=
  match o.guard with
  | none => K none
  | some (j, want) => match (all[j]?).bind (·.dst) with
    | none => False
    | some t => match find (0, t) env with
      | { x := y, s := .v (.bool β) } => match y with
        | none => K (some (wantB want β))
        | some y => K (some (y && wantB want β))
      | _ => False

/-- Modes 8, 9: the guard is known; else as it stands. -/
def pX (m : Nat) (x : Option Bool) (K : Option Bool → Nat → Prop) : Prop :=
  match m with
  | 8 => match x with
    | none => K none 0
    | some true => K none 0
    | some false => False
  | 9 => match x with
    | none => K none 1
    | some true => K none 1
    | some false => False
  | m => K x m

/-- A case on a temporary. -/
def splitT (b : Base) (st : St) (t : Tmp) (yes no : St → Prop) : Prop :=
  match find (0, t) (allE b st) with
  | { x := none, s := .v (.bool β) } => (β = true → yes { st with env := ((0, t), ⟨none, .v (.bool true)⟩) :: st.env }) ∧ (β = false → no { st with env := ((0, t), ⟨none, .v (.bool false)⟩) :: st.env })
  | _ => False

/-- A case on whether a temporary holds anything. -/
def splitY (b : Base) (st : St) (t : Tmp) (yes no : St → Prop) : Prop :=
  match find (0, t) (allE b st) with
  | { x := some y, s := s } => (y = true → yes { st with env := ((0, t), ⟨none, s⟩) :: st.env }) ∧ (y = false → no { st with env := ((0, t), ⟨some false, s⟩) :: st.env })
  | _ => False

section
variable (P : Program) (tab : Tab) (okF : FuncId → Bool)

/-- A region in its text's order. -/
def vcSeq (all : List Oper) (b : Base) : RS → List Oper → St → World → (Nat → St → World → Prop) → Prop
  | .done j, [], st, w, K => K j st w
  | .p _ m r, o :: rest, st, w, K => guardX all o (allE b st) fun x => pX m x fun x m => pureVc tab (allE b st) (allB b st) x m o.op fun s => vcSeq all b r rest (setE st o.dst ⟨x, s⟩) w K
  | .sk _ r, o :: rest, st, w, K => guardX all o (allE b st) fun x => match x with
    | some false => vcSeq all b r rest (setE st o.dst ⟨some false, .v (.bool false)⟩) w K
    | _ => False
  | .s t yes no, rest, st, w, K => splitT b st t (fun st => vcSeq all b yes rest st w K) (fun st => vcSeq all b no rest st w K)
  | .sy t yes no, rest, st, w, K => splitY b st t (fun st => vcSeq all b yes rest st w K) (fun st => vcSeq all b no rest st w K)
  | .o _ m r, o :: rest, st, w, K => guardX all o (allE b st) fun x => match x with
    | none | some true => opB P tab okF b st w m o.op o.type o.dst fun _ st w => vcSeq all b r rest st w K
    | _ => False
  | _, _, _, _, _ => False

def notM (M : Option (Nat → Prop)) (k : Nat) (K : Prop) : Prop :=
  match M with
  | none => K
  | some M => ¬ M k ∧ K

def inM (M : Option (Nat → Prop)) (sb : List Bx) : Nat → Prop :=
  match M with
  | none => fun k => orEq k sb
  | some M => fun k => M k ∨ orEq k sb

/-- The hidden variables of these names. -/
def pickBx (ids : List Nat) : List Bx → List Bx
  | [] => []
  | x :: r => match ids.any (Nat.beq x.id) with
    | true => x :: pickBx ids r
    | false => pickBx ids r

/-- The hidden variable that it reads. -/
def rdsBox (env : Env) (op : Op) : Option Nat :=
  match op with
  | .load _ (.tmp t) => match (find (0, t) env).s with
    | .bx k _ => some k
    | _ => none
  | _ => none

/-- The hidden variable that it stores into. -/
def stBox (env : Env) (op : Op) : Option Nat :=
  match op with
  | .store _ (.tmp t) _ => match (find (0, t) env).s with
    | .bx k _ => some k
    | _ => none
  | _ => none

/-- It reads none of these hidden variables, and none that was not there at the region's start. -/
def readsFree (b0 : List Bx) (ids : List Nat) (env : Env) (op : Op) : Bool :=
  match rdsBox env op with
  | some k => hasId k b0 && !ids.any (Nat.beq k)
  | none => true

/-- It stores into one of these hidden variables, if into any that was there at the region's start. -/
def storesIn (b0 : List Bx) (ids : List Nat) (env : Env) (op : Op) : Bool :=
  match stBox env op with
  | some k => !hasId k b0 || ids.any (Nat.beq k)
  | none => true

/-- A region that draws its order. w0: the world in which it began; b0: the hidden variables then; ids: those that it stores into. -/
def vcDraw (ops : Array Oper) (b : Base) (w0 : World) (M : Option (Nat → Prop)) (ids : List Nat) (b0 : List Bx) : RS → Option (List Nat) → Array Bool → St → World → (Nat → St → World → Prop) → Prop
  | .done j, none, listed, st, w, K => match Region.ready .any ops listed with
    | [] => K j st w
    | _ => False
  | .p i m r, none, listed, st, w, K => match (Region.ready .any ops listed).contains i && Region.free .any ops listed i with
    | true => match ops.toList[i]? with
      | some o => match readsFree b0 ids (allE b st) o.op with
        | true => guardX ops.toList o (allE b st) fun x => pX m x fun x m => pureVc tab (allE b st) (allB b st) x m o.op fun s => vcDraw ops b w0 M ids b0 r none (listed.setIfInBounds i true) (setE st o.dst ⟨x, s⟩) w K
        | false => False
      | none => False
    | false => False
  | .sk i r, none, listed, st, w, K => match (Region.ready .any ops listed).contains i && Region.free .any ops listed i with
    | true => match ops.toList[i]? with
      | some o => guardX ops.toList o (allE b st) fun x => match x with
        | some false => vcDraw ops b w0 M ids b0 r none (listed.setIfInBounds i true) (setE st o.dst ⟨some false, .v (.bool false)⟩) w K
        | _ => False
      | none => False
    | false => False
  | .s t yes no, none, listed, st, w, K => splitT b st t (fun st => vcDraw ops b w0 M ids b0 yes none listed st w K) (fun st => vcDraw ops b w0 M ids b0 no none listed st w K)
  | .sy t yes no, none, listed, st, w, K => splitY b st t (fun st => vcDraw ops b w0 M ids b0 yes none listed st w K) (fun st => vcDraw ops b w0 M ids b0 no none listed st w K)
  | .l i r, none, listed, st, w, K => match (Region.ready .any ops listed).contains i && Region.free .any ops listed i with
    | true => match ops.toList[i]? with
      | some o => guardX ops.toList o (allE b st) fun x => match x with
        | none | some true => match o.op with
          | .load t y => rdV (allE b st) none y fun v => match v, tab t with
            | .pointer (some a), some ti => loadVc ti w0 a fun v => notM M a.block (andNe a.block (pickBx ids b0) (vcDraw ops b w0 M ids b0 r none (listed.setIfInBounds i true) (setE st o.dst ⟨none, .v v⟩) w K))
            | _, _ => False
          | _ => False
        | _ => False
      | none => False
    | false => False
  | .o i m r, pend, listed, st, w, K => match (match pend with | none => Region.ready .any ops listed | some l => l) with
    | [j] => match Nat.beq i j with
      | true => match ops.toList[i]? with
        | some o => guardX ops.toList o (allE b st) fun x => match x with
          | none | some true => match storesIn b0 ids (allE b st) o.op with
           | true => opB P tab okF b st w m o.op o.type o.dst fun ch st w => match ch with
            | true => Fr (inM M (pickBx ids b0)) w0 w ∧ vcDraw ops b w0 M ids b0 r none (listed.setIfInBounds i true) st w K
            | false => vcDraw ops b w0 M ids b0 r none (listed.setIfInBounds i true) st w K
           | false => False
          | _ => False
        | none => False
      | false => False
    | _ => False
  | .br i m r more, pend, listed, st, w, K => match (match pend with | none => Region.ready .any ops listed | some l => l) with
    | j :: js => match Nat.beq i j with
      | true => match ops.toList[i]? with
        | some o => (guardX ops.toList o (allE b st) fun x => match x with
          | none | some true => match storesIn b0 ids (allE b st) o.op with
           | true => opB P tab okF b st w m o.op o.type o.dst fun ch st w => match ch with
            | true => Fr (inM M (pickBx ids b0)) w0 w ∧ vcDraw ops b w0 M ids b0 r none (listed.setIfInBounds i true) st w K
            | false => vcDraw ops b w0 M ids b0 r none (listed.setIfInBounds i true) st w K
           | false => False
          | _ => False) ∧ vcDraw ops b w0 M ids b0 more (some js) listed st w K
        | none => False
      | false => False
    | _ => False
  | _, _, _, _, _, _ => False

/-! ### Code -/

inductive H where
  /-- j: how it goes on -/
  | nil (j : Nat)
  | seq (a b : H)
  /-- lit: the condition is known -/
  | cond (lit : Bool) (a b : H)
  | block (a : H)
  | reg (r : RS)
  | draw (m : Bool) (ids : List Nat) (r : RS)
  /-- trk: what a loop's invariant speaks of; jk: what else its body turns -/
  | loop (trk : List (Key × Kd)) (jk : List Key) (a : H)
  /-- the ways through a piece of code meet again behind it -/
  | cut (trk : List (Key × Kd)) (jk : List Key) (j : Nat) (a : H)
  /-- one for each way in -/
  | alt (a b : H)

def headE (trk : List (Key × Kd)) (vs : List Value) (jk : List Key) : Env :=
  ((trk.map (·.1)).zip vs).map (fun (k, v) => (k, ⟨none, .v v⟩)) ++ jk.map fun k => (k, ⟨none, .junk⟩)

def getL (env : Env) : List (Key × Kd) → (List Value → Prop) → Prop
  | [], K => K []
  | (k, _) :: r, K => match find k env with
    | { x := none, s := .v v } => getL env r fun vs => K (v :: vs)
    | _ => False

def keysOk (ks : List Key) (bs : List Bx) : Env → Bool
  | [] => true
  | (k, _) :: r => (match k.1 with
    | 0 => hasKey k ks
    | i + 1 => !hasId i bs || hasKey k ks) && keysOk ks bs r

def kds (trk : List (Key × Kd)) : List Kd := trk.map (·.2)

def vc (okF : FuncId → Bool) : H → Nat → Code → Base → St → World → (Nat → St → World → Prop) → (Nat → Nat → St → World → Prop) → (St → World → Prop) → Prop
  | .alt h1 h2, i, c, b, st, w, KN, KX, KR => match i with
    | 0 => vc okF h1 0 c b st w KN KX KR
    | i + 1 => vc okF h2 i c b st w KN KX KR
  | .nil j, _, .skip, _, st, w, KN, _, _ => KN j st w
  | .nil j, _, .label _, _, st, w, KN, _, _ => KN j st w
  | .nil j, _, .exit i, _, st, w, _, KX, _ => KX i j st w
  | .nil _, _, .ret, _, st, w, _, _, KR => KR st w
  | .seq h1 h2, _, .seq c1 c2, b, st, w, KN, KX, KR => vc okF h1 0 c1 b st w (fun j st w => vc okF h2 j c2 b st w KN KX KR) KX KR
  | .cond lit h1 h2, _, .cond c c1 c2, b, st, w, KN, KX, KR => rdV (allE b st) none c fun v => match v with
    | .bool β => match lit with
      | false => (β = true → vc okF h1 0 c1 b st w KN KX KR) ∧ (β = false → vc okF h2 0 c2 b st w KN KX KR)
      | true => match β with
        | true => vc okF h1 0 c1 b st w KN KX KR
        | false => vc okF h2 0 c2 b st w KN KX KR
    | _ => False
  | .block h, _, .block id c, b, st, w, KN, KX, KR => vc okF h 0 c b st w KN (fun i j st w => match Nat.beq i id with
    | true => KN j st w
    | false => KX i j st w) KR
  | .reg r, _, .region _ ops false, b, st, w, KN, _, _ => vcSeq P tab okF ops.toList b r ops.toList st w KN
  | .draw m ids r, _, .region _ ops true, b, st, w, KN, _, _ => sync b { st with dirty := true } w fun w0 => match m with
    | false => vcDraw P tab okF ops b w0 none ids (allB b st) r none (Array.replicate ops.size false) (clean st) w0 KN
    | true => ∃ M : Nat → Prop, vcDraw P tab okF ops b w0 (some M) ids (allB b st) r none (Array.replicate ops.size false) (clean st) w0 KN
  | .loop trk jk h, _, .loop c, b, st, w, _, KX, KR => ∃ (I : Inv (World → Prop) (kds trk)) (μ : Inv (World → Nat) (kds trk)),
      (getL (allE b st) trk fun vs => app (kds trk) I vs fun I0 => sync b st w I0) ∧
      allL (kds trk) fun vs => ∀ w, app (kds trk) I vs fun I0 => I0 w → app (kds trk) μ vs fun m0 =>
        vc okF h 0 c ⟨headE trk vs jk ++ allE b st, allB b st⟩ ⟨[], [], false⟩ w
          (fun _ st' w' => match keysOk (trk.map (·.1) ++ jk) (allB b st) st'.env with
            | true => getL (st'.env ++ (headE trk vs jk ++ allE b st)) trk fun vs' => app (kds trk) I vs' fun I1 => app (kds trk) μ vs' fun m1 =>
                sync ⟨headE trk vs jk ++ allE b st, allB b st⟩ st' w' fun w' => I1 w' ∧ m1 w' < m0 w
            | false => False)
          (fun i j st' w' => KX i j { env := st'.env ++ (headE trk vs jk ++ st.env), nb := st'.nb ++ st.nb, dirty := st'.dirty } w')
          (fun st' w' => KR { env := st'.env ++ (headE trk vs jk ++ st.env), nb := st'.nb ++ st.nb, dirty := st'.dirty } w')
  | .cut trk jk j0 h, _, c, b, st, w, KN, KX, KR => ∃ J : Inv (World → Prop) (kds trk),
      vc okF h 0 c ⟨allE b st, allB b st⟩ ⟨[], [], st.dirty⟩ w
        (fun _ st' w' => match keysOk (trk.map (·.1) ++ jk) (allB b st) st'.env with
          | true => getL (st'.env ++ allE b st) trk fun vs' => app (kds trk) J vs' fun J1 => sync ⟨allE b st, allB b st⟩ st' w' fun w' => J1 w'
          | false => False)
        (fun i j st' w' => KX i j { env := st'.env ++ st.env, nb := st'.nb ++ st.nb, dirty := st'.dirty } w')
        (fun st' w' => KR { env := st'.env ++ st.env, nb := st'.nb ++ st.nb, dirty := st'.dirty } w') ∧
      allL (kds trk) fun vs => ∀ w', app (kds trk) J vs fun J1 => J1 w' → KN j0 { env := headE trk vs jk ++ st.env, nb := st.nb, dirty := false } w'
  | _, _, _, _, _, _, _, _, _ => False

/-! ### Functions -/

def dstOk (n : Nat) : Code → Bool
  | .region _ ops _ => ops.toList.all fun o => match o.dst with
    | some t => Nat.blt t n
    | none => true
  | .seq a b => dstOk n a && dstOk n b
  | .cond _ a b => dstOk n a && dstOk n b
  | .block _ a => dstOk n a
  | .loop a => dstOk n a
  | _ => true


def argE : Nat → List Value → Env
  | _, [] => []
  | i, v :: vs => ((0, i), ⟨none, .v v⟩) :: argE (i + 1) vs

def resVc (b : Base) (w : World) : List ResultVar → St → (List Value → St → World → Prop) → Prop
  | [], st, K => K [] st w
  | .tmp t :: rs, st, K => rdV (allE b st) none (.tmp t) fun v => resVc b w rs st fun vs st w => K (v :: vs) st w
  | .cell t ty :: rs, st, K => rd (allE b st) none (.tmp t) fun s => match s with
    | .bx k o => boxLoad tab (allE b st) (allB b st) none ty k o fun s => match s with
      | .v v => resVc b w rs st fun vs st w => K (v :: vs) st w
      | _ => False
    | _ => False

def one (vs : List Value) : Value :=
  match vs with
  | [v] => v
  | vs => .tuple vs.toArray

def vcFn (okF : FuncId → Bool) (fn : Func) (h : H) (args : List Value) (w : World) (R : Value → World → Prop) : Prop :=
  match fn.body with
  | some c => match dstOk fn.ntmps c with
   | true => vc P tab okF h 0 c ⟨[], []⟩ ⟨argE 0 args, [], false⟩ w
      (fun _ st w => resVc tab ⟨[], []⟩ w fn.results.toList st fun vs st w => sync ⟨[], []⟩ st w fun w' => R (one vs) w')
      (fun _ _ _ _ => False)
      (fun st w => resVc tab ⟨[], []⟩ w fn.results.toList st fun vs st w => sync ⟨[], []⟩ st w fun w' => R (one vs) w')
   | false => False
  | none => False

end
end Go.Vc
