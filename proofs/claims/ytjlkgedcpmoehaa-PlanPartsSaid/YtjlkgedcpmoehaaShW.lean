/- The verification conditions of functions of the program, as Go.Vc reckons them: by gen.py. -/
import Derived.Test.YtjlkgedcpmoehaaTab
set_option linter.unusedVariables false
set_option maxRecDepth 100000
namespace Go.Proofs.Ytjlkgedcpmoehaa
open Go
open Go.Proofs

def Sh.ref18_Show (n_Kind : Int) (n_Op : Int) (n_S : ByteArray) (n_T : ByteArray) (n_N : Int) (n_L : Option Addr) (n_L_len n_L_cap : Nat) (w : World) (R : Value → World → Prop) : Prop :=
  -- umlautref18.go:133
  ∀ b_n : Nat,
  w.heap.size ≤ b_n → (
  -- umlautref18.go:134
  ∀ w_1 : World,
  Vc.Fr (fun k => k = b_n) w w_1 → (
  b_n < w_1.heap.size → (
  Calls Try.prog 16 #[.agg #[.int .i64 n_Kind, .int .i64 n_Op, .string n_S, .string n_T, .int .i64 n_N, .slice n_L n_L_len n_L_cap]] w_1 fun (e : Ending) (w_2 : World) => (
  ∃ r_words : ByteArray,
  e = .returned (.string r_words) ∧ (
  (b_n < w_1.heap.size → w_2.heap[b_n]? = w_1.heap[b_n]?) ∧ (
  -- umlautref18.go:135
  Calls Try.prog 17 #[.string r_words] w_2 fun (e : Ending) (w_3 : World) => (
  ∃ r_Expr_N_Kind : Int,
  ∃ r_Expr_N_Op : Int,
  ∃ r_Expr_N_S : ByteArray,
  ∃ r_Expr_N_T : ByteArray,
  ∃ r_Expr_N_N : Int,
  ∃ (r_Expr_N_L : Option Addr) (r_Expr_N_L_len r_Expr_N_L_cap : Nat),
  ∃ r_Expr_S_Kind : Int,
  ∃ r_Expr_S_Name : ByteArray,
  ∃ r_Expr_S_Table : ByteArray,
  ∃ r_Expr_S_Text : ByteArray,
  ∃ r_Expr_S_Level : Int,
  ∃ r_Expr_S_Flags : Int,
  ∃ (r_Expr_S_Cols : Option Addr) (r_Expr_S_Cols_len r_Expr_S_Cols_cap : Nat),
  ∃ r_Expr_S_Unique : Bool,
  ∃ r_Expr_S_Distinct : Bool,
  ∃ (r_Expr_S_Rows : Option Addr) (r_Expr_S_Rows_len r_Expr_S_Rows_cap : Nat),
  ∃ (r_Expr_S_Sets : Option Addr) (r_Expr_S_Sets_len r_Expr_S_Sets_cap : Nat),
  ∃ (r_Expr_S_Items : Option Addr) (r_Expr_S_Items_len r_Expr_S_Items_cap : Nat),
  ∃ (r_Expr_S_From : Option Addr) (r_Expr_S_From_len r_Expr_S_From_cap : Nat),
  ∃ r_Expr_S_Where : Option Addr,
  ∃ r_Expr_S_Having : Option Addr,
  ∃ (r_Expr_S_Group : Option Addr) (r_Expr_S_Group_len r_Expr_S_Group_cap : Nat),
  ∃ (r_Expr_S_Order : Option Addr) (r_Expr_S_Order_len r_Expr_S_Order_cap : Nat),
  ∃ r_Expr_S_Limit : Int,
  ∃ r_Expr_S_Offset : Int,
  ∃ r_Expr_At : Int,
  ∃ r_Expr_E : Int,
  e = .returned (.agg #[.int .i64 r_Expr_N_Kind, .int .i64 r_Expr_N_Op, .string r_Expr_N_S, .string r_Expr_N_T, .int .i64 r_Expr_N_N, .slice r_Expr_N_L r_Expr_N_L_len r_Expr_N_L_cap, .int .i64 r_Expr_S_Kind, .string r_Expr_S_Name, .string r_Expr_S_Table, .string r_Expr_S_Text, .int .i64 r_Expr_S_Level, .int .i64 r_Expr_S_Flags, .slice r_Expr_S_Cols r_Expr_S_Cols_len r_Expr_S_Cols_cap, .bool r_Expr_S_Unique, .bool r_Expr_S_Distinct, .slice r_Expr_S_Rows r_Expr_S_Rows_len r_Expr_S_Rows_cap, .slice r_Expr_S_Sets r_Expr_S_Sets_len r_Expr_S_Sets_cap, .slice r_Expr_S_Items r_Expr_S_Items_len r_Expr_S_Items_cap, .slice r_Expr_S_From r_Expr_S_From_len r_Expr_S_From_cap, .pointer r_Expr_S_Where, .pointer r_Expr_S_Having, .slice r_Expr_S_Group r_Expr_S_Group_len r_Expr_S_Group_cap, .slice r_Expr_S_Order r_Expr_S_Order_len r_Expr_S_Order_cap, .int .i64 r_Expr_S_Limit, .int .i64 r_Expr_S_Offset, .int .i64 r_Expr_At, .int .i64 r_Expr_E]) ∧ (
  (b_n < w_2.heap.size → w_3.heap[b_n]? = w_2.heap[b_n]?) ∧ (
  ∀ b_t : Nat,
  w_3.heap.size ≤ b_t → (
  b_t ≠ b_n → (
  -- umlautref18.go:136
  ((!(r_Expr_E != (0 : Int))) = true → (!(r_Expr_E != (0 : Int))) = true) ∧ (
  (
   (r_Expr_E != (0 : Int)) = true → (
   -- umlautref18.go:137
   ∀ w_4 : World,
   Vc.Fr (fun k => k = b_t ∨ k = b_n) w_3 w_4 → (
   b_t < w_4.heap.size → (
   b_n < w_4.heap.size → (
   R (.tuple #[.string (⟨#[]⟩ : ByteArray), .bool false]) w_4)))))
  ∧ (
   (r_Expr_E != (0 : Int)) = false → (
   (!(r_Expr_E != (0 : Int))) = true ∧ (
   (!(r_Expr_E != (0 : Int))) = true ∧ (
   ∀ w_5 : World,
   Vc.Fr (fun k => k = b_t ∨ k = b_n) w_3 w_5 → (
   b_t < w_5.heap.size → (
   b_n < w_5.heap.size → (
   Calls Try.prog 13 #[.agg #[.int .i64 r_Expr_N_Kind, .int .i64 r_Expr_N_Op, .string r_Expr_N_S, .string r_Expr_N_T, .int .i64 r_Expr_N_N, .slice r_Expr_N_L r_Expr_N_L_len r_Expr_N_L_cap], .agg #[.int .i64 n_Kind, .int .i64 n_Op, .string n_S, .string n_T, .int .i64 n_N, .slice n_L n_L_len n_L_cap]] w_5 fun (e : Ending) (w_6 : World) => (
   ∃ r_SameNode : Bool,
   e = .returned (.bool r_SameNode) ∧ (
   (b_t < w_5.heap.size → w_6.heap[b_t]? = w_5.heap[b_t]?) ∧ (
   (b_n < w_5.heap.size → w_6.heap[b_n]? = w_5.heap[b_n]?) ∧ (
   (
    (!r_SameNode) = true → (
    -- umlautref18.go:137
    R (.tuple #[.string (⟨#[]⟩ : ByteArray), .bool false]) w_6))
   ∧ (
    (!r_SameNode) = false → (
    -- umlautref18.go:139
    R (.tuple #[.string r_words, .bool true]) w_6)))))))))))))))))))))))))
def Sh.ref18_Show_h : Vc.H := (.seq (.reg (.o 0 1 (.p 1 0 (.p 2 0 (.done 0))))) (.seq (.reg (.p 0 0 (.o 1 0 (.p 2 0 (.done 0))))) (.seq (.reg (.p 0 0 (.o 1 0 (.o 2 1 (.o 3 0 (.done 0)))))) (.seq (.seq (.reg (.p 0 0 (.p 1 0 (.p 2 0 (.p 3 0 (.p 4 0 (.p 5 0 (.p 6 0 (.s 13 (.sk 7 (.sk 8 (.p 9 1 (.done 0)))) (.o 7 0 (.p 8 8 (.p 9 1 (.done 1))))))))))))) (.alt (.cond true (.seq (.reg (.p 0 0 (.p 1 0 (.done 0)))) (.nil 0)) (.nil 0)) (.cond false (.seq (.reg (.p 0 0 (.p 1 0 (.done 0)))) (.nil 0)) (.nil 0)))) (.seq (.reg (.p 0 0 (.p 1 0 (.p 2 0 (.done 0))))) (.nil 0))))))
theorem Sh.ref18_Show_eq (n_Kind : Int) (n_Op : Int) (n_S : ByteArray) (n_T : ByteArray) (n_N : Int) (n_L : Option Addr) (n_L_len n_L_cap : Nat) (w : World) (R : Value → World → Prop) : Sh.ref18_Show n_Kind n_Op n_S n_T n_N n_L n_L_len n_L_cap w R = Vc.vcFn Try.prog tab okF Try.f6 Sh.ref18_Show_h [.agg #[.int .i64 n_Kind, .int .i64 n_Op, .string n_S, .string n_T, .int .i64 n_N, .slice n_L n_L_len n_L_cap]] w R := by kernel_rfl
theorem Sh.ref18_Show_calls (n_Kind : Int) (n_Op : Int) (n_S : ByteArray) (n_T : ByteArray) (n_N : Int) (n_L : Option Addr) (n_L_len n_L_cap : Nat) {w : World} {R : Value → World → Prop} (h : Sh.ref18_Show n_Kind n_Op n_S n_T n_N n_L n_L_len n_L_cap w R) : Calls Try.prog 6 #[.agg #[.int .i64 n_Kind, .int .i64 n_Op, .string n_S, .string n_T, .int .i64 n_N, .slice n_L n_L_len n_L_cap]] w fun e w' => ∃ v, e = .returned v ∧ R v w' :=
  Vc.fn_calls mixed tabOk okF_ok Try.func6 (by kernel_rfl) (by kernel_rfl) (by rw [← Sh.ref18_Show_eq n_Kind n_Op n_S n_T n_N n_L n_L_len n_L_cap]; exact h)

def Sh.ref18_words (n_Kind : Int) (n_Op : Int) (n_S : ByteArray) (n_T : ByteArray) (n_N : Int) (n_L : Option Addr) (n_L_len n_L_cap : Nat) (w : World) (R : Value → World → Prop) : Prop :=
  -- umlautref18.go:83
  ∀ b_n : Nat,
  w.heap.size ≤ b_n → (
  -- umlautref18.go:85
  ((n_Kind == (6 : Int)) = true → (n_Kind == (6 : Int)) = true) ∧ (
  ((n_Kind == (6 : Int)) = true → (n_Kind == (6 : Int)) = true) ∧ (
  ((n_Kind == (6 : Int)) = true → (n_Kind == (6 : Int)) = true) ∧ (
  ((n_Kind == (6 : Int)) = true → (n_Kind == (6 : Int)) = true) ∧ (
  (
   ((n_Kind == (6 : Int)) && (((n_L_len : Nat) : Int) == (2 : Int))) = true → (
   -- umlautref18.go:86
   ∀ w_1 : World,
   Vc.Fr (fun k => k = b_n) w w_1 → (
   b_n < w_1.heap.size → (
   Calls Try.prog 21 #[.agg #[.int .i64 n_Kind, .int .i64 n_Op, .string n_S, .string n_T, .int .i64 n_N, .slice n_L n_L_len n_L_cap]] w_1 fun (e : Ending) (w_2 : World) => (
   ∃ r_Level : Int,
   e = .returned (.int .i64 r_Level) ∧ (
   (b_n < w_1.heap.size → w_2.heap[b_n]? = w_1.heap[b_n]?) ∧ (
   -- umlautref18.go:87
   (
    (r_Level == (4 : Int)) = true → (
    -- umlautref18.go:88 (draws)
    ∀ w_3 : World,
    Vc.Fr (fun k => k = b_n) w_2 w_3 → (
    b_n < w_3.heap.size → (
    ∃ p : Addr,
    n_L = some p ∧ (
    (0 ≤ (0 : Int) ∧ (0 : Int) < ((n_L_len : Nat) : Int)) ∧ (
    ∃ t21_Kind : Int,
    w_3.cell? (p.add ((0 : Int).toNat * 6)) = some (.int .i64 t21_Kind) ∧ (
    ∃ t21_Op : Int,
    w_3.cell? ((p.add ((0 : Int).toNat * 6)).add 1) = some (.int .i64 t21_Op) ∧ (
    ∃ t21_S : ByteArray,
    w_3.cell? ((p.add ((0 : Int).toNat * 6)).add 2) = some (.string t21_S) ∧ (
    ∃ t21_T : ByteArray,
    w_3.cell? ((p.add ((0 : Int).toNat * 6)).add 3) = some (.string t21_T) ∧ (
    ∃ t21_N : Int,
    w_3.cell? ((p.add ((0 : Int).toNat * 6)).add 4) = some (.int .i64 t21_N) ∧ (
    ∃ (t21_L : Option Addr) (t21_L_len t21_L_cap : Nat),
    w_3.cell? ((p.add ((0 : Int).toNat * 6)).add 5) = some (.slice t21_L t21_L_len t21_L_cap) ∧ (
    ∃ p_1 : Addr,
    n_L = some p_1 ∧ (
    (0 ≤ (1 : Int) ∧ (1 : Int) < ((n_L_len : Nat) : Int)) ∧ (
    ∃ t32_Kind : Int,
    w_3.cell? (p_1.add ((1 : Int).toNat * 6)) = some (.int .i64 t32_Kind) ∧ (
    ∃ t32_Op : Int,
    w_3.cell? ((p_1.add ((1 : Int).toNat * 6)).add 1) = some (.int .i64 t32_Op) ∧ (
    ∃ t32_S : ByteArray,
    w_3.cell? ((p_1.add ((1 : Int).toNat * 6)).add 2) = some (.string t32_S) ∧ (
    ∃ t32_T : ByteArray,
    w_3.cell? ((p_1.add ((1 : Int).toNat * 6)).add 3) = some (.string t32_T) ∧ (
    ∃ t32_N : Int,
    w_3.cell? ((p_1.add ((1 : Int).toNat * 6)).add 4) = some (.int .i64 t32_N) ∧ (
    ∃ (t32_L : Option Addr) (t32_L_len t32_L_cap : Nat),
    w_3.cell? ((p_1.add ((1 : Int).toNat * 6)).add 5) = some (.slice t32_L t32_L_len t32_L_cap) ∧ (
    Calls Try.prog 22 #[.agg #[.int .i64 t21_Kind, .int .i64 t21_Op, .string t21_S, .string t21_T, .int .i64 t21_N, .slice t21_L t21_L_len t21_L_cap], .int .i64 (5 : Int)] w_3 fun (e : Ending) (w_4 : World) => (
    ∃ r_at : ByteArray,
    e = .returned (.string r_at) ∧ (
    (b_n < w_3.heap.size → w_4.heap[b_n]? = w_3.heap[b_n]?) ∧ (
    Vc.Fr (fun k => False) w_3 w_4 ∧ (
    ((r_at.size + (⟨#[32]⟩ : ByteArray).size : Nat) : Int) ≤ 9223372036854775807 ∧ (
    Calls Try.prog 23 #[.int .i64 n_Op] w_4 fun (e : Ending) (w_5 : World) => (
    ∃ r_opName : ByteArray,
    e = .returned (.string r_opName) ∧ (
    (b_n < w_4.heap.size → w_5.heap[b_n]? = w_4.heap[b_n]?) ∧ (
    Vc.Fr (fun k => False) w_3 w_5 ∧ (
    (((r_at ++ (⟨#[32]⟩ : ByteArray)).size + r_opName.size : Nat) : Int) ≤ 9223372036854775807 ∧ (
    ((((r_at ++ (⟨#[32]⟩ : ByteArray)) ++ r_opName).size + (⟨#[32]⟩ : ByteArray).size : Nat) : Int) ≤ 9223372036854775807 ∧ (
    Calls Try.prog 22 #[.agg #[.int .i64 t32_Kind, .int .i64 t32_Op, .string t32_S, .string t32_T, .int .i64 t32_N, .slice t32_L t32_L_len t32_L_cap], .int .i64 (5 : Int)] w_5 fun (e : Ending) (w_6 : World) => (
    ∃ r_at_1 : ByteArray,
    e = .returned (.string r_at_1) ∧ (
    (b_n < w_5.heap.size → w_6.heap[b_n]? = w_5.heap[b_n]?) ∧ (
    Vc.Fr (fun k => False) w_3 w_6 ∧ (
    (((((r_at ++ (⟨#[32]⟩ : ByteArray)) ++ r_opName) ++ (⟨#[32]⟩ : ByteArray)).size + r_at_1.size : Nat) : Int) ≤ 9223372036854775807 ∧ (
    R (.string ((((r_at ++ (⟨#[32]⟩ : ByteArray)) ++ r_opName) ++ (⟨#[32]⟩ : ByteArray)) ++ r_at_1)) w_6))))))))))))))))))))))))))))))))))))
   ∧ (
    (r_Level == (4 : Int)) = false → (
    -- umlautref18.go:90 (draws)
    ∀ w_7 : World,
    Vc.Fr (fun k => k = b_n) w_2 w_7 → (
    b_n < w_7.heap.size → (
    ∃ p_2 : Addr,
    n_L = some p_2 ∧ (
    (0 ≤ (0 : Int) ∧ (0 : Int) < ((n_L_len : Nat) : Int)) ∧ (
    ∃ t38_Kind : Int,
    w_7.cell? (p_2.add ((0 : Int).toNat * 6)) = some (.int .i64 t38_Kind) ∧ (
    ∃ t38_Op : Int,
    w_7.cell? ((p_2.add ((0 : Int).toNat * 6)).add 1) = some (.int .i64 t38_Op) ∧ (
    ∃ t38_S : ByteArray,
    w_7.cell? ((p_2.add ((0 : Int).toNat * 6)).add 2) = some (.string t38_S) ∧ (
    ∃ t38_T : ByteArray,
    w_7.cell? ((p_2.add ((0 : Int).toNat * 6)).add 3) = some (.string t38_T) ∧ (
    ∃ t38_N : Int,
    w_7.cell? ((p_2.add ((0 : Int).toNat * 6)).add 4) = some (.int .i64 t38_N) ∧ (
    ∃ (t38_L : Option Addr) (t38_L_len t38_L_cap : Nat),
    w_7.cell? ((p_2.add ((0 : Int).toNat * 6)).add 5) = some (.slice t38_L t38_L_len t38_L_cap) ∧ (
    ∃ p_3 : Addr,
    n_L = some p_3 ∧ (
    (0 ≤ (1 : Int) ∧ (1 : Int) < ((n_L_len : Nat) : Int)) ∧ (
    ∃ t50_Kind : Int,
    w_7.cell? (p_3.add ((1 : Int).toNat * 6)) = some (.int .i64 t50_Kind) ∧ (
    ∃ t50_Op : Int,
    w_7.cell? ((p_3.add ((1 : Int).toNat * 6)).add 1) = some (.int .i64 t50_Op) ∧ (
    ∃ t50_S : ByteArray,
    w_7.cell? ((p_3.add ((1 : Int).toNat * 6)).add 2) = some (.string t50_S) ∧ (
    ∃ t50_T : ByteArray,
    w_7.cell? ((p_3.add ((1 : Int).toNat * 6)).add 3) = some (.string t50_T) ∧ (
    ∃ t50_N : Int,
    w_7.cell? ((p_3.add ((1 : Int).toNat * 6)).add 4) = some (.int .i64 t50_N) ∧ (
    ∃ (t50_L : Option Addr) (t50_L_len t50_L_cap : Nat),
    w_7.cell? ((p_3.add ((1 : Int).toNat * 6)).add 5) = some (.slice t50_L t50_L_len t50_L_cap) ∧ (
    Calls Try.prog 22 #[.agg #[.int .i64 t38_Kind, .int .i64 t38_Op, .string t38_S, .string t38_T, .int .i64 t38_N, .slice t38_L t38_L_len t38_L_cap], .int .i64 r_Level] w_7 fun (e : Ending) (w_8 : World) => (
    ∃ r_at_2 : ByteArray,
    e = .returned (.string r_at_2) ∧ (
    (b_n < w_7.heap.size → w_8.heap[b_n]? = w_7.heap[b_n]?) ∧ (
    Vc.Fr (fun k => False) w_7 w_8 ∧ (
    ((r_at_2.size + (⟨#[32]⟩ : ByteArray).size : Nat) : Int) ≤ 9223372036854775807 ∧ (
    Calls Try.prog 23 #[.int .i64 n_Op] w_8 fun (e : Ending) (w_9 : World) => (
    ∃ r_opName_1 : ByteArray,
    e = .returned (.string r_opName_1) ∧ (
    (b_n < w_8.heap.size → w_9.heap[b_n]? = w_8.heap[b_n]?) ∧ (
    Vc.Fr (fun k => False) w_7 w_9 ∧ (
    (((r_at_2 ++ (⟨#[32]⟩ : ByteArray)).size + r_opName_1.size : Nat) : Int) ≤ 9223372036854775807 ∧ (
    ((((r_at_2 ++ (⟨#[32]⟩ : ByteArray)) ++ r_opName_1).size + (⟨#[32]⟩ : ByteArray).size : Nat) : Int) ≤ 9223372036854775807 ∧ (
    Calls Try.prog 22 #[.agg #[.int .i64 t50_Kind, .int .i64 t50_Op, .string t50_S, .string t50_T, .int .i64 t50_N, .slice t50_L t50_L_len t50_L_cap], .int .i64 (IntKind.i64.wrap (r_Level + (1 : Int)))] w_9 fun (e : Ending) (w_10 : World) => (
    ∃ r_at_3 : ByteArray,
    e = .returned (.string r_at_3) ∧ (
    (b_n < w_9.heap.size → w_10.heap[b_n]? = w_9.heap[b_n]?) ∧ (
    Vc.Fr (fun k => False) w_7 w_10 ∧ (
    (((((r_at_2 ++ (⟨#[32]⟩ : ByteArray)) ++ r_opName_1) ++ (⟨#[32]⟩ : ByteArray)).size + r_at_3.size : Nat) : Int) ≤ 9223372036854775807 ∧ (
    R (.string ((((r_at_2 ++ (⟨#[32]⟩ : ByteArray)) ++ r_opName_1) ++ (⟨#[32]⟩ : ByteArray)) ++ r_at_3)) w_10)))))))))))))))))))))))))))))))))))))))))))
  ∧ (
   ((n_Kind == (6 : Int)) && (((n_L_len : Nat) : Int) == (2 : Int))) = false → (
   -- umlautref18.go:91
   ((n_Kind == (5 : Int)) = true → (n_Kind == (5 : Int)) = true) ∧ (
   ((n_Kind == (5 : Int)) = true → (n_Kind == (5 : Int)) = true) ∧ (
   ((n_Kind == (5 : Int)) = true → (n_Kind == (5 : Int)) = true) ∧ (
   ((n_Kind == (5 : Int)) = true → (n_Kind == (5 : Int)) = true) ∧ (
   (
    ((n_Kind == (5 : Int)) && (((n_L_len : Nat) : Int) == (1 : Int))) = true → (
    -- umlautref18.go:92
    (
     (n_Op == (21 : Int)) = true → (
     -- umlautref18.go:93
     ∃ p_4 : Addr,
     n_L = some p_4 ∧ (
     (0 ≤ (0 : Int) ∧ (0 : Int) < ((n_L_len : Nat) : Int)) ∧ (
     ∀ w_11 : World,
     Vc.Fr (fun k => k = b_n) w w_11 → (
     b_n < w_11.heap.size → (
     ∃ t71_Kind : Int,
     w_11.cell? (p_4.add ((0 : Int).toNat * 6)) = some (.int .i64 t71_Kind) ∧ (
     ∃ t71_Op : Int,
     w_11.cell? ((p_4.add ((0 : Int).toNat * 6)).add 1) = some (.int .i64 t71_Op) ∧ (
     ∃ t71_S : ByteArray,
     w_11.cell? ((p_4.add ((0 : Int).toNat * 6)).add 2) = some (.string t71_S) ∧ (
     ∃ t71_T : ByteArray,
     w_11.cell? ((p_4.add ((0 : Int).toNat * 6)).add 3) = some (.string t71_T) ∧ (
     ∃ t71_N : Int,
     w_11.cell? ((p_4.add ((0 : Int).toNat * 6)).add 4) = some (.int .i64 t71_N) ∧ (
     ∃ (t71_L : Option Addr) (t71_L_len t71_L_cap : Nat),
     w_11.cell? ((p_4.add ((0 : Int).toNat * 6)).add 5) = some (.slice t71_L t71_L_len t71_L_cap) ∧ (
     Calls Try.prog 22 #[.agg #[.int .i64 t71_Kind, .int .i64 t71_Op, .string t71_S, .string t71_T, .int .i64 t71_N, .slice t71_L t71_L_len t71_L_cap], .int .i64 (3 : Int)] w_11 fun (e : Ending) (w_12 : World) => (
     ∃ r_at_4 : ByteArray,
     e = .returned (.string r_at_4) ∧ (
     (b_n < w_11.heap.size → w_12.heap[b_n]? = w_11.heap[b_n]?) ∧ (
     (((⟨#[78, 79, 84, 32]⟩ : ByteArray).size + r_at_4.size : Nat) : Int) ≤ 9223372036854775807 ∧ (
     R (.string ((⟨#[78, 79, 84, 32]⟩ : ByteArray) ++ r_at_4)) w_12))))))))))))))))
    ∧ (
     (n_Op == (21 : Int)) = false → (
     -- umlautref18.go:95
     ∃ p_5 : Addr,
     n_L = some p_5 ∧ (
     (0 ≤ (0 : Int) ∧ (0 : Int) < ((n_L_len : Nat) : Int)) ∧ (
     ∀ w_13 : World,
     Vc.Fr (fun k => k = b_n) w w_13 → (
     b_n < w_13.heap.size → (
     ∃ t77_Kind : Int,
     w_13.cell? (p_5.add ((0 : Int).toNat * 6)) = some (.int .i64 t77_Kind) ∧ (
     ∃ t77_Op : Int,
     w_13.cell? ((p_5.add ((0 : Int).toNat * 6)).add 1) = some (.int .i64 t77_Op) ∧ (
     ∃ t77_S : ByteArray,
     w_13.cell? ((p_5.add ((0 : Int).toNat * 6)).add 2) = some (.string t77_S) ∧ (
     ∃ t77_T : ByteArray,
     w_13.cell? ((p_5.add ((0 : Int).toNat * 6)).add 3) = some (.string t77_T) ∧ (
     ∃ t77_N : Int,
     w_13.cell? ((p_5.add ((0 : Int).toNat * 6)).add 4) = some (.int .i64 t77_N) ∧ (
     ∃ (t77_L : Option Addr) (t77_L_len t77_L_cap : Nat),
     w_13.cell? ((p_5.add ((0 : Int).toNat * 6)).add 5) = some (.slice t77_L t77_L_len t77_L_cap) ∧ (
     Calls Try.prog 22 #[.agg #[.int .i64 t77_Kind, .int .i64 t77_Op, .string t77_S, .string t77_T, .int .i64 t77_N, .slice t77_L t77_L_len t77_L_cap], .int .i64 (10 : Int)] w_13 fun (e : Ending) (w_14 : World) => (
     ∃ r_at_5 : ByteArray,
     e = .returned (.string r_at_5) ∧ (
     (b_n < w_13.heap.size → w_14.heap[b_n]? = w_13.heap[b_n]?) ∧ (
     (((⟨#[45, 32]⟩ : ByteArray).size + r_at_5.size : Nat) : Int) ≤ 9223372036854775807 ∧ (
     R (.string ((⟨#[45, 32]⟩ : ByteArray) ++ r_at_5)) w_14))))))))))))))))))
   ∧ (
    ((n_Kind == (5 : Int)) && (((n_L_len : Nat) : Int) == (1 : Int))) = false → (
    -- umlautref18.go:96
    ((n_Kind == (7 : Int)) = true → (n_Kind == (7 : Int)) = true) ∧ (
    ((n_Kind == (7 : Int)) = true → (n_Kind == (7 : Int)) = true) ∧ (
    ((n_Kind == (7 : Int)) = true → (n_Kind == (7 : Int)) = true) ∧ (
    ((n_Kind == (7 : Int)) = true → (n_Kind == (7 : Int)) = true) ∧ (
    (
     ((n_Kind == (7 : Int)) && (((n_L_len : Nat) : Int) == (1 : Int))) = true → (
     -- umlautref18.go:97 (draws)
     ∀ w_15 : World,
     Vc.Fr (fun k => k = b_n) w w_15 → (
     b_n < w_15.heap.size → (
     ∃ p_6 : Addr,
     n_L = some p_6 ∧ (
     (0 ≤ (0 : Int) ∧ (0 : Int) < ((n_L_len : Nat) : Int)) ∧ (
     ∃ t93_Kind : Int,
     w_15.cell? (p_6.add ((0 : Int).toNat * 6)) = some (.int .i64 t93_Kind) ∧ (
     ∃ t93_Op : Int,
     w_15.cell? ((p_6.add ((0 : Int).toNat * 6)).add 1) = some (.int .i64 t93_Op) ∧ (
     ∃ t93_S : ByteArray,
     w_15.cell? ((p_6.add ((0 : Int).toNat * 6)).add 2) = some (.string t93_S) ∧ (
     ∃ t93_T : ByteArray,
     w_15.cell? ((p_6.add ((0 : Int).toNat * 6)).add 3) = some (.string t93_T) ∧ (
     ∃ t93_N : Int,
     w_15.cell? ((p_6.add ((0 : Int).toNat * 6)).add 4) = some (.int .i64 t93_N) ∧ (
     ∃ (t93_L : Option Addr) (t93_L_len t93_L_cap : Nat),
     w_15.cell? ((p_6.add ((0 : Int).toNat * 6)).add 5) = some (.slice t93_L t93_L_len t93_L_cap) ∧ (
     Calls Try.prog 22 #[.agg #[.int .i64 t93_Kind, .int .i64 t93_Op, .string t93_S, .string t93_T, .int .i64 t93_N, .slice t93_L t93_L_len t93_L_cap], .int .i64 (5 : Int)] w_15 fun (e : Ending) (w_16 : World) => (
     ∃ r_at_6 : ByteArray,
     e = .returned (.string r_at_6) ∧ (
     (b_n < w_15.heap.size → w_16.heap[b_n]? = w_15.heap[b_n]?) ∧ (
     Vc.Fr (fun k => False) w_15 w_16 ∧ (
     ((r_at_6.size + (⟨#[32, 73, 83, 32]⟩ : ByteArray).size : Nat) : Int) ≤ 9223372036854775807 ∧ (
     Calls Try.prog 24 #[.agg #[.int .i64 n_Kind, .int .i64 n_Op, .string n_S, .string n_T, .int .i64 n_N, .slice n_L n_L_len n_L_cap]] w_16 fun (e : Ending) (w_17 : World) => (
     ∃ r_not : ByteArray,
     e = .returned (.string r_not) ∧ (
     (b_n < w_16.heap.size → w_17.heap[b_n]? = w_16.heap[b_n]?) ∧ (
     Vc.Fr (fun k => False) w_15 w_17 ∧ (
     (((r_at_6 ++ (⟨#[32, 73, 83, 32]⟩ : ByteArray)).size + r_not.size : Nat) : Int) ≤ 9223372036854775807 ∧ (
     ((((r_at_6 ++ (⟨#[32, 73, 83, 32]⟩ : ByteArray)) ++ r_not).size + (⟨#[78, 85, 76, 76]⟩ : ByteArray).size : Nat) : Int) ≤ 9223372036854775807 ∧ (
     R (.string (((r_at_6 ++ (⟨#[32, 73, 83, 32]⟩ : ByteArray)) ++ r_not) ++ (⟨#[78, 85, 76, 76]⟩ : ByteArray))) w_17)))))))))))))))))))))))
    ∧ (
     ((n_Kind == (7 : Int)) && (((n_L_len : Nat) : Int) == (1 : Int))) = false → (
     -- umlautref18.go:98
     ((n_Kind == (8 : Int)) = true → (n_Kind == (8 : Int)) = true) ∧ (
     ((n_Kind == (8 : Int)) = true → (n_Kind == (8 : Int)) = true) ∧ (
     ((n_Kind == (8 : Int)) = true → (n_Kind == (8 : Int)) = true) ∧ (
     ((n_Kind == (8 : Int)) = true → (n_Kind == (8 : Int)) = true) ∧ (
     (
      ((n_Kind == (8 : Int)) && (((n_L_len : Nat) : Int) == (2 : Int))) = true → (
      -- umlautref18.go:99 (draws)
      ∀ w_18 : World,
      Vc.Fr (fun k => k = b_n) w w_18 → (
      b_n < w_18.heap.size → (
      ∃ p_7 : Addr,
      n_L = some p_7 ∧ (
      (0 ≤ (0 : Int) ∧ (0 : Int) < ((n_L_len : Nat) : Int)) ∧ (
      ∃ t113_Kind : Int,
      w_18.cell? (p_7.add ((0 : Int).toNat * 6)) = some (.int .i64 t113_Kind) ∧ (
      ∃ t113_Op : Int,
      w_18.cell? ((p_7.add ((0 : Int).toNat * 6)).add 1) = some (.int .i64 t113_Op) ∧ (
      ∃ t113_S : ByteArray,
      w_18.cell? ((p_7.add ((0 : Int).toNat * 6)).add 2) = some (.string t113_S) ∧ (
      ∃ t113_T : ByteArray,
      w_18.cell? ((p_7.add ((0 : Int).toNat * 6)).add 3) = some (.string t113_T) ∧ (
      ∃ t113_N : Int,
      w_18.cell? ((p_7.add ((0 : Int).toNat * 6)).add 4) = some (.int .i64 t113_N) ∧ (
      ∃ (t113_L : Option Addr) (t113_L_len t113_L_cap : Nat),
      w_18.cell? ((p_7.add ((0 : Int).toNat * 6)).add 5) = some (.slice t113_L t113_L_len t113_L_cap) ∧ (
      ∃ p_8 : Addr,
      n_L = some p_8 ∧ (
      (0 ≤ (1 : Int) ∧ (1 : Int) < ((n_L_len : Nat) : Int)) ∧ (
      ∃ t123_Kind : Int,
      w_18.cell? (p_8.add ((1 : Int).toNat * 6)) = some (.int .i64 t123_Kind) ∧ (
      ∃ t123_Op : Int,
      w_18.cell? ((p_8.add ((1 : Int).toNat * 6)).add 1) = some (.int .i64 t123_Op) ∧ (
      ∃ t123_S : ByteArray,
      w_18.cell? ((p_8.add ((1 : Int).toNat * 6)).add 2) = some (.string t123_S) ∧ (
      ∃ t123_T : ByteArray,
      w_18.cell? ((p_8.add ((1 : Int).toNat * 6)).add 3) = some (.string t123_T) ∧ (
      ∃ t123_N : Int,
      w_18.cell? ((p_8.add ((1 : Int).toNat * 6)).add 4) = some (.int .i64 t123_N) ∧ (
      ∃ (t123_L : Option Addr) (t123_L_len t123_L_cap : Nat),
      w_18.cell? ((p_8.add ((1 : Int).toNat * 6)).add 5) = some (.slice t123_L t123_L_len t123_L_cap) ∧ (
      Calls Try.prog 22 #[.agg #[.int .i64 t113_Kind, .int .i64 t113_Op, .string t113_S, .string t113_T, .int .i64 t113_N, .slice t113_L t113_L_len t113_L_cap], .int .i64 (5 : Int)] w_18 fun (e : Ending) (w_19 : World) => (
      ∃ r_at_7 : ByteArray,
      e = .returned (.string r_at_7) ∧ (
      (b_n < w_18.heap.size → w_19.heap[b_n]? = w_18.heap[b_n]?) ∧ (
      Vc.Fr (fun k => False) w_18 w_19 ∧ (
      ((r_at_7.size + (⟨#[32]⟩ : ByteArray).size : Nat) : Int) ≤ 9223372036854775807 ∧ (
      Calls Try.prog 24 #[.agg #[.int .i64 n_Kind, .int .i64 n_Op, .string n_S, .string n_T, .int .i64 n_N, .slice n_L n_L_len n_L_cap]] w_19 fun (e : Ending) (w_20 : World) => (
      ∃ r_not_1 : ByteArray,
      e = .returned (.string r_not_1) ∧ (
      (b_n < w_19.heap.size → w_20.heap[b_n]? = w_19.heap[b_n]?) ∧ (
      Vc.Fr (fun k => False) w_18 w_20 ∧ (
      (((r_at_7 ++ (⟨#[32]⟩ : ByteArray)).size + r_not_1.size : Nat) : Int) ≤ 9223372036854775807 ∧ (
      ((((r_at_7 ++ (⟨#[32]⟩ : ByteArray)) ++ r_not_1).size + (⟨#[76, 73, 75, 69, 32]⟩ : ByteArray).size : Nat) : Int) ≤ 9223372036854775807 ∧ (
      Calls Try.prog 22 #[.agg #[.int .i64 t123_Kind, .int .i64 t123_Op, .string t123_S, .string t123_T, .int .i64 t123_N, .slice t123_L t123_L_len t123_L_cap], .int .i64 (5 : Int)] w_20 fun (e : Ending) (w_21 : World) => (
      ∃ r_at_8 : ByteArray,
      e = .returned (.string r_at_8) ∧ (
      (b_n < w_20.heap.size → w_21.heap[b_n]? = w_20.heap[b_n]?) ∧ (
      Vc.Fr (fun k => False) w_18 w_21 ∧ (
      (((((r_at_7 ++ (⟨#[32]⟩ : ByteArray)) ++ r_not_1) ++ (⟨#[76, 73, 75, 69, 32]⟩ : ByteArray)).size + r_at_8.size : Nat) : Int) ≤ 9223372036854775807 ∧ (
      R (.string ((((r_at_7 ++ (⟨#[32]⟩ : ByteArray)) ++ r_not_1) ++ (⟨#[76, 73, 75, 69, 32]⟩ : ByteArray)) ++ r_at_8)) w_21))))))))))))))))))))))))))))))))))))
     ∧ (
      ((n_Kind == (8 : Int)) && (((n_L_len : Nat) : Int) == (2 : Int))) = false → (
      -- umlautref18.go:100
      ((n_Kind == (8 : Int)) = true → (n_Kind == (8 : Int)) = true) ∧ (
      ((n_Kind == (8 : Int)) = true → (n_Kind == (8 : Int)) = true) ∧ (
      ((n_Kind == (8 : Int)) = true → (n_Kind == (8 : Int)) = true) ∧ (
      ((n_Kind == (8 : Int)) = true → (n_Kind == (8 : Int)) = true) ∧ (
      (
       ((n_Kind == (8 : Int)) && (((n_L_len : Nat) : Int) == (3 : Int))) = true → (
       -- umlautref18.go:101 (draws)
       ∀ w_22 : World,
       Vc.Fr (fun k => k = b_n) w w_22 → (
       b_n < w_22.heap.size → (
       ∃ p_9 : Addr,
       n_L = some p_9 ∧ (
       (0 ≤ (0 : Int) ∧ (0 : Int) < ((n_L_len : Nat) : Int)) ∧ (
       ∃ t139_Kind : Int,
       w_22.cell? (p_9.add ((0 : Int).toNat * 6)) = some (.int .i64 t139_Kind) ∧ (
       ∃ t139_Op : Int,
       w_22.cell? ((p_9.add ((0 : Int).toNat * 6)).add 1) = some (.int .i64 t139_Op) ∧ (
       ∃ t139_S : ByteArray,
       w_22.cell? ((p_9.add ((0 : Int).toNat * 6)).add 2) = some (.string t139_S) ∧ (
       ∃ t139_T : ByteArray,
       w_22.cell? ((p_9.add ((0 : Int).toNat * 6)).add 3) = some (.string t139_T) ∧ (
       ∃ t139_N : Int,
       w_22.cell? ((p_9.add ((0 : Int).toNat * 6)).add 4) = some (.int .i64 t139_N) ∧ (
       ∃ (t139_L : Option Addr) (t139_L_len t139_L_cap : Nat),
       w_22.cell? ((p_9.add ((0 : Int).toNat * 6)).add 5) = some (.slice t139_L t139_L_len t139_L_cap) ∧ (
       ∃ p_10 : Addr,
       n_L = some p_10 ∧ (
       (0 ≤ (1 : Int) ∧ (1 : Int) < ((n_L_len : Nat) : Int)) ∧ (
       ∃ t149_Kind : Int,
       w_22.cell? (p_10.add ((1 : Int).toNat * 6)) = some (.int .i64 t149_Kind) ∧ (
       ∃ t149_Op : Int,
       w_22.cell? ((p_10.add ((1 : Int).toNat * 6)).add 1) = some (.int .i64 t149_Op) ∧ (
       ∃ t149_S : ByteArray,
       w_22.cell? ((p_10.add ((1 : Int).toNat * 6)).add 2) = some (.string t149_S) ∧ (
       ∃ t149_T : ByteArray,
       w_22.cell? ((p_10.add ((1 : Int).toNat * 6)).add 3) = some (.string t149_T) ∧ (
       ∃ t149_N : Int,
       w_22.cell? ((p_10.add ((1 : Int).toNat * 6)).add 4) = some (.int .i64 t149_N) ∧ (
       ∃ (t149_L : Option Addr) (t149_L_len t149_L_cap : Nat),
       w_22.cell? ((p_10.add ((1 : Int).toNat * 6)).add 5) = some (.slice t149_L t149_L_len t149_L_cap) ∧ (
       ∃ p_11 : Addr,
       n_L = some p_11 ∧ (
       (0 ≤ (2 : Int) ∧ (2 : Int) < ((n_L_len : Nat) : Int)) ∧ (
       ∃ t156_Kind : Int,
       w_22.cell? (p_11.add ((2 : Int).toNat * 6)) = some (.int .i64 t156_Kind) ∧ (
       ∃ t156_Op : Int,
       w_22.cell? ((p_11.add ((2 : Int).toNat * 6)).add 1) = some (.int .i64 t156_Op) ∧ (
       ∃ t156_S : ByteArray,
       w_22.cell? ((p_11.add ((2 : Int).toNat * 6)).add 2) = some (.string t156_S) ∧ (
       ∃ t156_T : ByteArray,
       w_22.cell? ((p_11.add ((2 : Int).toNat * 6)).add 3) = some (.string t156_T) ∧ (
       ∃ t156_N : Int,
       w_22.cell? ((p_11.add ((2 : Int).toNat * 6)).add 4) = some (.int .i64 t156_N) ∧ (
       ∃ (t156_L : Option Addr) (t156_L_len t156_L_cap : Nat),
       w_22.cell? ((p_11.add ((2 : Int).toNat * 6)).add 5) = some (.slice t156_L t156_L_len t156_L_cap) ∧ (
       Calls Try.prog 22 #[.agg #[.int .i64 t139_Kind, .int .i64 t139_Op, .string t139_S, .string t139_T, .int .i64 t139_N, .slice t139_L t139_L_len t139_L_cap], .int .i64 (5 : Int)] w_22 fun (e : Ending) (w_23 : World) => (
       ∃ r_at_9 : ByteArray,
       e = .returned (.string r_at_9) ∧ (
       (b_n < w_22.heap.size → w_23.heap[b_n]? = w_22.heap[b_n]?) ∧ (
       Vc.Fr (fun k => False) w_22 w_23 ∧ (
       ((r_at_9.size + (⟨#[32]⟩ : ByteArray).size : Nat) : Int) ≤ 9223372036854775807 ∧ (
       Calls Try.prog 24 #[.agg #[.int .i64 n_Kind, .int .i64 n_Op, .string n_S, .string n_T, .int .i64 n_N, .slice n_L n_L_len n_L_cap]] w_23 fun (e : Ending) (w_24 : World) => (
       ∃ r_not_2 : ByteArray,
       e = .returned (.string r_not_2) ∧ (
       (b_n < w_23.heap.size → w_24.heap[b_n]? = w_23.heap[b_n]?) ∧ (
       Vc.Fr (fun k => False) w_22 w_24 ∧ (
       (((r_at_9 ++ (⟨#[32]⟩ : ByteArray)).size + r_not_2.size : Nat) : Int) ≤ 9223372036854775807 ∧ (
       ((((r_at_9 ++ (⟨#[32]⟩ : ByteArray)) ++ r_not_2).size + (⟨#[76, 73, 75, 69, 32]⟩ : ByteArray).size : Nat) : Int) ≤ 9223372036854775807 ∧ (
       Calls Try.prog 22 #[.agg #[.int .i64 t149_Kind, .int .i64 t149_Op, .string t149_S, .string t149_T, .int .i64 t149_N, .slice t149_L t149_L_len t149_L_cap], .int .i64 (5 : Int)] w_24 fun (e : Ending) (w_25 : World) => (
       ∃ r_at_10 : ByteArray,
       e = .returned (.string r_at_10) ∧ (
       (b_n < w_24.heap.size → w_25.heap[b_n]? = w_24.heap[b_n]?) ∧ (
       Vc.Fr (fun k => False) w_22 w_25 ∧ (
       (((((r_at_9 ++ (⟨#[32]⟩ : ByteArray)) ++ r_not_2) ++ (⟨#[76, 73, 75, 69, 32]⟩ : ByteArray)).size + r_at_10.size : Nat) : Int) ≤ 9223372036854775807 ∧ (
       ((((((r_at_9 ++ (⟨#[32]⟩ : ByteArray)) ++ r_not_2) ++ (⟨#[76, 73, 75, 69, 32]⟩ : ByteArray)) ++ r_at_10).size + (⟨#[32, 69, 83, 67, 65, 80, 69, 32]⟩ : ByteArray).size : Nat) : Int) ≤ 9223372036854775807 ∧ (
       Calls Try.prog 22 #[.agg #[.int .i64 t156_Kind, .int .i64 t156_Op, .string t156_S, .string t156_T, .int .i64 t156_N, .slice t156_L t156_L_len t156_L_cap], .int .i64 (5 : Int)] w_25 fun (e : Ending) (w_26 : World) => (
       ∃ r_at_11 : ByteArray,
       e = .returned (.string r_at_11) ∧ (
       (b_n < w_25.heap.size → w_26.heap[b_n]? = w_25.heap[b_n]?) ∧ (
       Vc.Fr (fun k => False) w_22 w_26 ∧ (
       (((((((r_at_9 ++ (⟨#[32]⟩ : ByteArray)) ++ r_not_2) ++ (⟨#[76, 73, 75, 69, 32]⟩ : ByteArray)) ++ r_at_10) ++ (⟨#[32, 69, 83, 67, 65, 80, 69, 32]⟩ : ByteArray)).size + r_at_11.size : Nat) : Int) ≤ 9223372036854775807 ∧ (
       R (.string ((((((r_at_9 ++ (⟨#[32]⟩ : ByteArray)) ++ r_not_2) ++ (⟨#[76, 73, 75, 69, 32]⟩ : ByteArray)) ++ r_at_10) ++ (⟨#[32, 69, 83, 67, 65, 80, 69, 32]⟩ : ByteArray)) ++ r_at_11)) w_26))))))))))))))))))))))))))))))))))))))))))))))))))
      ∧ (
       ((n_Kind == (8 : Int)) && (((n_L_len : Nat) : Int) == (3 : Int))) = false → (
       -- umlautref18.go:102
       ((n_Kind == (9 : Int)) = true → (n_Kind == (9 : Int)) = true) ∧ (
       ((n_Kind == (9 : Int)) = true → (n_Kind == (9 : Int)) = true) ∧ (
       ((n_Kind == (9 : Int)) = true → (n_Kind == (9 : Int)) = true) ∧ (
       ((n_Kind == (9 : Int)) = true → (n_Kind == (9 : Int)) = true) ∧ (
       (
        ((n_Kind == (9 : Int)) && (decide (((n_L_len : Nat) : Int) > (1 : Int)))) = true → (
        -- umlautref18.go:103 (draws)
        ∀ w_27 : World,
        Vc.Fr (fun k => k = b_n) w w_27 → (
        b_n < w_27.heap.size → (
        ∃ p_12 : Addr,
        n_L = some p_12 ∧ (
        (0 ≤ (0 : Int) ∧ (0 : Int) < ((n_L_len : Nat) : Int)) ∧ (
        ∃ t172_Kind : Int,
        w_27.cell? (p_12.add ((0 : Int).toNat * 6)) = some (.int .i64 t172_Kind) ∧ (
        ∃ t172_Op : Int,
        w_27.cell? ((p_12.add ((0 : Int).toNat * 6)).add 1) = some (.int .i64 t172_Op) ∧ (
        ∃ t172_S : ByteArray,
        w_27.cell? ((p_12.add ((0 : Int).toNat * 6)).add 2) = some (.string t172_S) ∧ (
        ∃ t172_T : ByteArray,
        w_27.cell? ((p_12.add ((0 : Int).toNat * 6)).add 3) = some (.string t172_T) ∧ (
        ∃ t172_N : Int,
        w_27.cell? ((p_12.add ((0 : Int).toNat * 6)).add 4) = some (.int .i64 t172_N) ∧ (
        ∃ (t172_L : Option Addr) (t172_L_len t172_L_cap : Nat),
        w_27.cell? ((p_12.add ((0 : Int).toNat * 6)).add 5) = some (.slice t172_L t172_L_len t172_L_cap) ∧ (
        (0 ≤ (1 : Int) ∧ (1 : Int) ≤ ((n_L_len : Nat) : Int)) ∧ (
        Calls Try.prog 22 #[.agg #[.int .i64 t172_Kind, .int .i64 t172_Op, .string t172_S, .string t172_T, .int .i64 t172_N, .slice t172_L t172_L_len t172_L_cap], .int .i64 (5 : Int)] w_27 fun (e : Ending) (w_28 : World) => (
        ∃ r_at_12 : ByteArray,
        e = .returned (.string r_at_12) ∧ (
        (b_n < w_27.heap.size → w_28.heap[b_n]? = w_27.heap[b_n]?) ∧ (
        Vc.Fr (fun k => False) w_27 w_28 ∧ (
        ((r_at_12.size + (⟨#[32]⟩ : ByteArray).size : Nat) : Int) ≤ 9223372036854775807 ∧ (
        Calls Try.prog 24 #[.agg #[.int .i64 n_Kind, .int .i64 n_Op, .string n_S, .string n_T, .int .i64 n_N, .slice n_L n_L_len n_L_cap]] w_28 fun (e : Ending) (w_29 : World) => (
        ∃ r_not_3 : ByteArray,
        e = .returned (.string r_not_3) ∧ (
        (b_n < w_28.heap.size → w_29.heap[b_n]? = w_28.heap[b_n]?) ∧ (
        Vc.Fr (fun k => False) w_27 w_29 ∧ (
        (((r_at_12 ++ (⟨#[32]⟩ : ByteArray)).size + r_not_3.size : Nat) : Int) ≤ 9223372036854775807 ∧ (
        ((((r_at_12 ++ (⟨#[32]⟩ : ByteArray)) ++ r_not_3).size + (⟨#[73, 78, 32, 40, 32]⟩ : ByteArray).size : Nat) : Int) ≤ 9223372036854775807 ∧ (
        Calls Try.prog 25 #[.slice (if n_L_cap = (1 : Int).toNat then n_L else n_L.map (·.add ((1 : Int).toNat * 6))) (n_L_len - (1 : Int).toNat) (n_L_cap - (1 : Int).toNat)] w_29 fun (e : Ending) (w_30 : World) => (
        ∃ r_commas : ByteArray,
        e = .returned (.string r_commas) ∧ (
        (b_n < w_29.heap.size → w_30.heap[b_n]? = w_29.heap[b_n]?) ∧ (
        Vc.Fr (fun k => False) w_27 w_30 ∧ (
        (((((r_at_12 ++ (⟨#[32]⟩ : ByteArray)) ++ r_not_3) ++ (⟨#[73, 78, 32, 40, 32]⟩ : ByteArray)).size + r_commas.size : Nat) : Int) ≤ 9223372036854775807 ∧ (
        ((((((r_at_12 ++ (⟨#[32]⟩ : ByteArray)) ++ r_not_3) ++ (⟨#[73, 78, 32, 40, 32]⟩ : ByteArray)) ++ r_commas).size + (⟨#[32, 41]⟩ : ByteArray).size : Nat) : Int) ≤ 9223372036854775807 ∧ (
        R (.string (((((r_at_12 ++ (⟨#[32]⟩ : ByteArray)) ++ r_not_3) ++ (⟨#[73, 78, 32, 40, 32]⟩ : ByteArray)) ++ r_commas) ++ (⟨#[32, 41]⟩ : ByteArray))) w_30))))))))))))))))))))))))))))))
       ∧ (
        ((n_Kind == (9 : Int)) && (decide (((n_L_len : Nat) : Int) > (1 : Int)))) = false → (
        -- umlautref18.go:104
        ((n_Kind == (10 : Int)) = true → (n_Kind == (10 : Int)) = true) ∧ (
        ((n_Kind == (10 : Int)) = true → (n_Kind == (10 : Int)) = true) ∧ (
        ((n_Kind == (10 : Int)) = true → (n_Kind == (10 : Int)) = true) ∧ (
        ((n_Kind == (10 : Int)) = true → (n_Kind == (10 : Int)) = true) ∧ (
        (
         ((n_Kind == (10 : Int)) && (((n_L_len : Nat) : Int) == (3 : Int))) = true → (
         -- umlautref18.go:105 (draws)
         ∀ w_31 : World,
         Vc.Fr (fun k => k = b_n) w w_31 → (
         b_n < w_31.heap.size → (
         ∃ p_13 : Addr,
         n_L = some p_13 ∧ (
         (0 ≤ (0 : Int) ∧ (0 : Int) < ((n_L_len : Nat) : Int)) ∧ (
         ∃ t198_Kind : Int,
         w_31.cell? (p_13.add ((0 : Int).toNat * 6)) = some (.int .i64 t198_Kind) ∧ (
         ∃ t198_Op : Int,
         w_31.cell? ((p_13.add ((0 : Int).toNat * 6)).add 1) = some (.int .i64 t198_Op) ∧ (
         ∃ t198_S : ByteArray,
         w_31.cell? ((p_13.add ((0 : Int).toNat * 6)).add 2) = some (.string t198_S) ∧ (
         ∃ t198_T : ByteArray,
         w_31.cell? ((p_13.add ((0 : Int).toNat * 6)).add 3) = some (.string t198_T) ∧ (
         ∃ t198_N : Int,
         w_31.cell? ((p_13.add ((0 : Int).toNat * 6)).add 4) = some (.int .i64 t198_N) ∧ (
         ∃ (t198_L : Option Addr) (t198_L_len t198_L_cap : Nat),
         w_31.cell? ((p_13.add ((0 : Int).toNat * 6)).add 5) = some (.slice t198_L t198_L_len t198_L_cap) ∧ (
         ∃ p_14 : Addr,
         n_L = some p_14 ∧ (
         (0 ≤ (1 : Int) ∧ (1 : Int) < ((n_L_len : Nat) : Int)) ∧ (
         ∃ t208_Kind : Int,
         w_31.cell? (p_14.add ((1 : Int).toNat * 6)) = some (.int .i64 t208_Kind) ∧ (
         ∃ t208_Op : Int,
         w_31.cell? ((p_14.add ((1 : Int).toNat * 6)).add 1) = some (.int .i64 t208_Op) ∧ (
         ∃ t208_S : ByteArray,
         w_31.cell? ((p_14.add ((1 : Int).toNat * 6)).add 2) = some (.string t208_S) ∧ (
         ∃ t208_T : ByteArray,
         w_31.cell? ((p_14.add ((1 : Int).toNat * 6)).add 3) = some (.string t208_T) ∧ (
         ∃ t208_N : Int,
         w_31.cell? ((p_14.add ((1 : Int).toNat * 6)).add 4) = some (.int .i64 t208_N) ∧ (
         ∃ (t208_L : Option Addr) (t208_L_len t208_L_cap : Nat),
         w_31.cell? ((p_14.add ((1 : Int).toNat * 6)).add 5) = some (.slice t208_L t208_L_len t208_L_cap) ∧ (
         ∃ p_15 : Addr,
         n_L = some p_15 ∧ (
         (0 ≤ (2 : Int) ∧ (2 : Int) < ((n_L_len : Nat) : Int)) ∧ (
         ∃ t215_Kind : Int,
         w_31.cell? (p_15.add ((2 : Int).toNat * 6)) = some (.int .i64 t215_Kind) ∧ (
         ∃ t215_Op : Int,
         w_31.cell? ((p_15.add ((2 : Int).toNat * 6)).add 1) = some (.int .i64 t215_Op) ∧ (
         ∃ t215_S : ByteArray,
         w_31.cell? ((p_15.add ((2 : Int).toNat * 6)).add 2) = some (.string t215_S) ∧ (
         ∃ t215_T : ByteArray,
         w_31.cell? ((p_15.add ((2 : Int).toNat * 6)).add 3) = some (.string t215_T) ∧ (
         ∃ t215_N : Int,
         w_31.cell? ((p_15.add ((2 : Int).toNat * 6)).add 4) = some (.int .i64 t215_N) ∧ (
         ∃ (t215_L : Option Addr) (t215_L_len t215_L_cap : Nat),
         w_31.cell? ((p_15.add ((2 : Int).toNat * 6)).add 5) = some (.slice t215_L t215_L_len t215_L_cap) ∧ (
         Calls Try.prog 22 #[.agg #[.int .i64 t198_Kind, .int .i64 t198_Op, .string t198_S, .string t198_T, .int .i64 t198_N, .slice t198_L t198_L_len t198_L_cap], .int .i64 (5 : Int)] w_31 fun (e : Ending) (w_32 : World) => (
         ∃ r_at_13 : ByteArray,
         e = .returned (.string r_at_13) ∧ (
         (b_n < w_31.heap.size → w_32.heap[b_n]? = w_31.heap[b_n]?) ∧ (
         Vc.Fr (fun k => False) w_31 w_32 ∧ (
         ((r_at_13.size + (⟨#[32]⟩ : ByteArray).size : Nat) : Int) ≤ 9223372036854775807 ∧ (
         Calls Try.prog 24 #[.agg #[.int .i64 n_Kind, .int .i64 n_Op, .string n_S, .string n_T, .int .i64 n_N, .slice n_L n_L_len n_L_cap]] w_32 fun (e : Ending) (w_33 : World) => (
         ∃ r_not_4 : ByteArray,
         e = .returned (.string r_not_4) ∧ (
         (b_n < w_32.heap.size → w_33.heap[b_n]? = w_32.heap[b_n]?) ∧ (
         Vc.Fr (fun k => False) w_31 w_33 ∧ (
         (((r_at_13 ++ (⟨#[32]⟩ : ByteArray)).size + r_not_4.size : Nat) : Int) ≤ 9223372036854775807 ∧ (
         ((((r_at_13 ++ (⟨#[32]⟩ : ByteArray)) ++ r_not_4).size + (⟨#[66, 69, 84, 87, 69, 69, 78, 32]⟩ : ByteArray).size : Nat) : Int) ≤ 9223372036854775807 ∧ (
         Calls Try.prog 22 #[.agg #[.int .i64 t208_Kind, .int .i64 t208_Op, .string t208_S, .string t208_T, .int .i64 t208_N, .slice t208_L t208_L_len t208_L_cap], .int .i64 (5 : Int)] w_33 fun (e : Ending) (w_34 : World) => (
         ∃ r_at_14 : ByteArray,
         e = .returned (.string r_at_14) ∧ (
         (b_n < w_33.heap.size → w_34.heap[b_n]? = w_33.heap[b_n]?) ∧ (
         Vc.Fr (fun k => False) w_31 w_34 ∧ (
         (((((r_at_13 ++ (⟨#[32]⟩ : ByteArray)) ++ r_not_4) ++ (⟨#[66, 69, 84, 87, 69, 69, 78, 32]⟩ : ByteArray)).size + r_at_14.size : Nat) : Int) ≤ 9223372036854775807 ∧ (
         ((((((r_at_13 ++ (⟨#[32]⟩ : ByteArray)) ++ r_not_4) ++ (⟨#[66, 69, 84, 87, 69, 69, 78, 32]⟩ : ByteArray)) ++ r_at_14).size + (⟨#[32, 65, 78, 68, 32]⟩ : ByteArray).size : Nat) : Int) ≤ 9223372036854775807 ∧ (
         Calls Try.prog 22 #[.agg #[.int .i64 t215_Kind, .int .i64 t215_Op, .string t215_S, .string t215_T, .int .i64 t215_N, .slice t215_L t215_L_len t215_L_cap], .int .i64 (5 : Int)] w_34 fun (e : Ending) (w_35 : World) => (
         ∃ r_at_15 : ByteArray,
         e = .returned (.string r_at_15) ∧ (
         (b_n < w_34.heap.size → w_35.heap[b_n]? = w_34.heap[b_n]?) ∧ (
         Vc.Fr (fun k => False) w_31 w_35 ∧ (
         (((((((r_at_13 ++ (⟨#[32]⟩ : ByteArray)) ++ r_not_4) ++ (⟨#[66, 69, 84, 87, 69, 69, 78, 32]⟩ : ByteArray)) ++ r_at_14) ++ (⟨#[32, 65, 78, 68, 32]⟩ : ByteArray)).size + r_at_15.size : Nat) : Int) ≤ 9223372036854775807 ∧ (
         R (.string ((((((r_at_13 ++ (⟨#[32]⟩ : ByteArray)) ++ r_not_4) ++ (⟨#[66, 69, 84, 87, 69, 69, 78, 32]⟩ : ByteArray)) ++ r_at_14) ++ (⟨#[32, 65, 78, 68, 32]⟩ : ByteArray)) ++ r_at_15)) w_35))))))))))))))))))))))))))))))))))))))))))))))))))
        ∧ (
         ((n_Kind == (10 : Int)) && (((n_L_len : Nat) : Int) == (3 : Int))) = false → (
         -- umlautref18.go:106
         ((n_Kind == (11 : Int)) = true → (n_Kind == (11 : Int)) = true) ∧ (
         ((n_Kind == (11 : Int)) = true → (n_Kind == (11 : Int)) = true) ∧ (
         ((n_Kind == (11 : Int)) = true → (n_Kind == (11 : Int)) = true) ∧ (
         ((n_Kind == (11 : Int)) = true → (n_Kind == (11 : Int)) = true) ∧ (
         (
          ((n_Kind == (11 : Int)) && (((n_L_len : Nat) : Int) == (1 : Int))) = true → (
          -- umlautref18.go:107 (draws)
          ∀ w_36 : World,
          Vc.Fr (fun k => k = b_n) w w_36 → (
          b_n < w_36.heap.size → (
          ∃ p_16 : Addr,
          n_L = some p_16 ∧ (
          (0 ≤ (0 : Int) ∧ (0 : Int) < ((n_L_len : Nat) : Int)) ∧ (
          ∃ t231_Kind : Int,
          w_36.cell? (p_16.add ((0 : Int).toNat * 6)) = some (.int .i64 t231_Kind) ∧ (
          ∃ t231_Op : Int,
          w_36.cell? ((p_16.add ((0 : Int).toNat * 6)).add 1) = some (.int .i64 t231_Op) ∧ (
          ∃ t231_S : ByteArray,
          w_36.cell? ((p_16.add ((0 : Int).toNat * 6)).add 2) = some (.string t231_S) ∧ (
          ∃ t231_T : ByteArray,
          w_36.cell? ((p_16.add ((0 : Int).toNat * 6)).add 3) = some (.string t231_T) ∧ (
          ∃ t231_N : Int,
          w_36.cell? ((p_16.add ((0 : Int).toNat * 6)).add 4) = some (.int .i64 t231_N) ∧ (
          ∃ (t231_L : Option Addr) (t231_L_len t231_L_cap : Nat),
          w_36.cell? ((p_16.add ((0 : Int).toNat * 6)).add 5) = some (.slice t231_L t231_L_len t231_L_cap) ∧ (
          Calls Try.prog 22 #[.agg #[.int .i64 t231_Kind, .int .i64 t231_Op, .string t231_S, .string t231_T, .int .i64 t231_N, .slice t231_L t231_L_len t231_L_cap], .int .i64 (11 : Int)] w_36 fun (e : Ending) (w_37 : World) => (
          ∃ r_at_16 : ByteArray,
          e = .returned (.string r_at_16) ∧ (
          (b_n < w_36.heap.size → w_37.heap[b_n]? = w_36.heap[b_n]?) ∧ (
          Vc.Fr (fun k => False) w_36 w_37 ∧ (
          ((r_at_16.size + (⟨#[32, 67, 79, 76, 76, 65, 84, 69, 32]⟩ : ByteArray).size : Nat) : Int) ≤ 9223372036854775807 ∧ (
          (((r_at_16 ++ (⟨#[32, 67, 79, 76, 76, 65, 84, 69, 32]⟩ : ByteArray)).size + n_S.size : Nat) : Int) ≤ 9223372036854775807 ∧ (
          R (.string ((r_at_16 ++ (⟨#[32, 67, 79, 76, 76, 65, 84, 69, 32]⟩ : ByteArray)) ++ n_S)) w_37))))))))))))))))))
         ∧ (
          ((n_Kind == (11 : Int)) && (((n_L_len : Nat) : Int) == (1 : Int))) = false → (
          -- umlautref18.go:108
          ((n_Kind == (12 : Int)) = true → (n_Kind == (12 : Int)) = true) ∧ (
          ((n_Kind == (12 : Int)) = true → (n_Kind == (12 : Int)) = true) ∧ (
          ((n_Kind == (12 : Int)) = true → (n_Kind == (12 : Int)) = true) ∧ (
          ((n_Kind == (12 : Int)) = true → (n_Kind == (12 : Int)) = true) ∧ (
          (((n_Kind == (12 : Int)) && (((n_L_len : Nat) : Int) == (1 : Int))) = true → ((n_Kind == (12 : Int)) && (((n_L_len : Nat) : Int) == (1 : Int))) = true) ∧ (
          (((n_Kind == (12 : Int)) && (((n_L_len : Nat) : Int) == (1 : Int))) = true → ((n_Kind == (12 : Int)) && (((n_L_len : Nat) : Int) == (1 : Int))) = true) ∧ (
          (((n_Kind == (12 : Int)) && (((n_L_len : Nat) : Int) == (1 : Int))) = true → ((n_Kind == (12 : Int)) && (((n_L_len : Nat) : Int) == (1 : Int))) = true) ∧ (
          ((((n_Kind == (12 : Int)) && (((n_L_len : Nat) : Int) == (1 : Int))) && (decide (n_N ≥ (1 : Int)))) = true → (((n_Kind == (12 : Int)) && (((n_L_len : Nat) : Int) == (1 : Int))) && (decide (n_N ≥ (1 : Int)))) = true) ∧ (
          ((((n_Kind == (12 : Int)) && (((n_L_len : Nat) : Int) == (1 : Int))) && (decide (n_N ≥ (1 : Int)))) = true → (((n_Kind == (12 : Int)) && (((n_L_len : Nat) : Int) == (1 : Int))) && (decide (n_N ≥ (1 : Int)))) = true) ∧ (
          ((((n_Kind == (12 : Int)) && (((n_L_len : Nat) : Int) == (1 : Int))) && (decide (n_N ≥ (1 : Int)))) = true → (((n_Kind == (12 : Int)) && (((n_L_len : Nat) : Int) == (1 : Int))) && (decide (n_N ≥ (1 : Int)))) = true) ∧ (
          (
           ((((n_Kind == (12 : Int)) && (((n_L_len : Nat) : Int) == (1 : Int))) && (decide (n_N ≥ (1 : Int)))) && (decide (n_N ≤ (3 : Int)))) = true → (
           -- umlautref18.go:109 (draws)
           ∀ w_38 : World,
           Vc.Fr (fun k => k = b_n) w w_38 → (
           b_n < w_38.heap.size → (
           ∃ p_17 : Addr,
           n_L = some p_17 ∧ (
           (0 ≤ (0 : Int) ∧ (0 : Int) < ((n_L_len : Nat) : Int)) ∧ (
           ∃ t260_Kind : Int,
           w_38.cell? (p_17.add ((0 : Int).toNat * 6)) = some (.int .i64 t260_Kind) ∧ (
           ∃ t260_Op : Int,
           w_38.cell? ((p_17.add ((0 : Int).toNat * 6)).add 1) = some (.int .i64 t260_Op) ∧ (
           ∃ t260_S : ByteArray,
           w_38.cell? ((p_17.add ((0 : Int).toNat * 6)).add 2) = some (.string t260_S) ∧ (
           ∃ t260_T : ByteArray,
           w_38.cell? ((p_17.add ((0 : Int).toNat * 6)).add 3) = some (.string t260_T) ∧ (
           ∃ t260_N : Int,
           w_38.cell? ((p_17.add ((0 : Int).toNat * 6)).add 4) = some (.int .i64 t260_N) ∧ (
           ∃ (t260_L : Option Addr) (t260_L_len t260_L_cap : Nat),
           w_38.cell? ((p_17.add ((0 : Int).toNat * 6)).add 5) = some (.slice t260_L t260_L_len t260_L_cap) ∧ (
           (
            Calls Try.prog 22 #[.agg #[.int .i64 t260_Kind, .int .i64 t260_Op, .string t260_S, .string t260_T, .int .i64 t260_N, .slice t260_L t260_L_len t260_L_cap], .int .i64 (1 : Int)] w_38 fun (e : Ending) (w_39 : World) => (
            ∃ r_at_17 : ByteArray,
            e = .returned (.string r_at_17) ∧ (
            (b_n < w_38.heap.size → w_39.heap[b_n]? = w_38.heap[b_n]?) ∧ (
            Vc.Fr (fun k => False) w_38 w_39 ∧ (
            (((⟨#[67, 65, 83, 84, 32, 40, 32]⟩ : ByteArray).size + r_at_17.size : Nat) : Int) ≤ 9223372036854775807 ∧ (
            ((((⟨#[67, 65, 83, 84, 32, 40, 32]⟩ : ByteArray) ++ r_at_17).size + (⟨#[32, 65, 83, 32]⟩ : ByteArray).size : Nat) : Int) ≤ 9223372036854775807 ∧ (
            ∀ w_40 : World,
            w_40 = w_39.alloc (.cells #[.string (⟨#[66, 79, 79, 76]⟩ : ByteArray), .string (⟨#[73, 78, 84]⟩ : ByteArray), .string (⟨#[84, 69, 88, 84]⟩ : ByteArray)] 9) → (
            Vc.Fr (fun k => False) w_38 w_40 ∧ (
            (0 ≤ (IntKind.i64.wrap (n_N - (1 : Int))) ∧ (IntKind.i64.wrap (n_N - (1 : Int))) < ((3 : Nat) : Int)) ∧ (
            ∃ t269 : ByteArray,
            w_40.cell? ((⟨w_39.heap.size, 0, none⟩ : Addr).add ((IntKind.i64.wrap (n_N - (1 : Int))).toNat * 1)) = some (.string t269) ∧ (
            (((((⟨#[67, 65, 83, 84, 32, 40, 32]⟩ : ByteArray) ++ r_at_17) ++ (⟨#[32, 65, 83, 32]⟩ : ByteArray)).size + t269.size : Nat) : Int) ≤ 9223372036854775807 ∧ (
            ((((((⟨#[67, 65, 83, 84, 32, 40, 32]⟩ : ByteArray) ++ r_at_17) ++ (⟨#[32, 65, 83, 32]⟩ : ByteArray)) ++ t269).size + (⟨#[32, 41]⟩ : ByteArray).size : Nat) : Int) ≤ 9223372036854775807 ∧ (
            R (.string (((((⟨#[67, 65, 83, 84, 32, 40, 32]⟩ : ByteArray) ++ r_at_17) ++ (⟨#[32, 65, 83, 32]⟩ : ByteArray)) ++ t269) ++ (⟨#[32, 41]⟩ : ByteArray))) w_40)))))))))))))
           ∧ (
            ∀ w_41 : World,
            w_41 = w_38.alloc (.cells #[.string (⟨#[66, 79, 79, 76]⟩ : ByteArray), .string (⟨#[73, 78, 84]⟩ : ByteArray), .string (⟨#[84, 69, 88, 84]⟩ : ByteArray)] 9) → (
            Vc.Fr (fun k => False) w_38 w_41 ∧ (
            (0 ≤ (IntKind.i64.wrap (n_N - (1 : Int))) ∧ (IntKind.i64.wrap (n_N - (1 : Int))) < ((3 : Nat) : Int)) ∧ (
            (
             Calls Try.prog 22 #[.agg #[.int .i64 t260_Kind, .int .i64 t260_Op, .string t260_S, .string t260_T, .int .i64 t260_N, .slice t260_L t260_L_len t260_L_cap], .int .i64 (1 : Int)] w_41 fun (e : Ending) (w_42 : World) => (
             ∃ r_at_18 : ByteArray,
             e = .returned (.string r_at_18) ∧ (
             (b_n < w_41.heap.size → w_42.heap[b_n]? = w_41.heap[b_n]?) ∧ (
             Vc.Fr (fun k => False) w_38 w_42 ∧ (
             (((⟨#[67, 65, 83, 84, 32, 40, 32]⟩ : ByteArray).size + r_at_18.size : Nat) : Int) ≤ 9223372036854775807 ∧ (
             ((((⟨#[67, 65, 83, 84, 32, 40, 32]⟩ : ByteArray) ++ r_at_18).size + (⟨#[32, 65, 83, 32]⟩ : ByteArray).size : Nat) : Int) ≤ 9223372036854775807 ∧ (
             ∃ t269_1 : ByteArray,
             w_42.cell? ((⟨w_38.heap.size, 0, none⟩ : Addr).add ((IntKind.i64.wrap (n_N - (1 : Int))).toNat * 1)) = some (.string t269_1) ∧ (
             (((((⟨#[67, 65, 83, 84, 32, 40, 32]⟩ : ByteArray) ++ r_at_18) ++ (⟨#[32, 65, 83, 32]⟩ : ByteArray)).size + t269_1.size : Nat) : Int) ≤ 9223372036854775807 ∧ (
             ((((((⟨#[67, 65, 83, 84, 32, 40, 32]⟩ : ByteArray) ++ r_at_18) ++ (⟨#[32, 65, 83, 32]⟩ : ByteArray)) ++ t269_1).size + (⟨#[32, 41]⟩ : ByteArray).size : Nat) : Int) ≤ 9223372036854775807 ∧ (
             R (.string (((((⟨#[67, 65, 83, 84, 32, 40, 32]⟩ : ByteArray) ++ r_at_18) ++ (⟨#[32, 65, 83, 32]⟩ : ByteArray)) ++ t269_1) ++ (⟨#[32, 41]⟩ : ByteArray))) w_42))))))))))
            ∧ (
             ∃ t269_2 : ByteArray,
             w_41.cell? ((⟨w_38.heap.size, 0, none⟩ : Addr).add ((IntKind.i64.wrap (n_N - (1 : Int))).toNat * 1)) = some (.string t269_2) ∧ (
             Calls Try.prog 22 #[.agg #[.int .i64 t260_Kind, .int .i64 t260_Op, .string t260_S, .string t260_T, .int .i64 t260_N, .slice t260_L t260_L_len t260_L_cap], .int .i64 (1 : Int)] w_41 fun (e : Ending) (w_43 : World) => (
             ∃ r_at_19 : ByteArray,
             e = .returned (.string r_at_19) ∧ (
             (b_n < w_41.heap.size → w_43.heap[b_n]? = w_41.heap[b_n]?) ∧ (
             Vc.Fr (fun k => False) w_38 w_43 ∧ (
             (((⟨#[67, 65, 83, 84, 32, 40, 32]⟩ : ByteArray).size + r_at_19.size : Nat) : Int) ≤ 9223372036854775807 ∧ (
             ((((⟨#[67, 65, 83, 84, 32, 40, 32]⟩ : ByteArray) ++ r_at_19).size + (⟨#[32, 65, 83, 32]⟩ : ByteArray).size : Nat) : Int) ≤ 9223372036854775807 ∧ (
             (((((⟨#[67, 65, 83, 84, 32, 40, 32]⟩ : ByteArray) ++ r_at_19) ++ (⟨#[32, 65, 83, 32]⟩ : ByteArray)).size + t269_2.size : Nat) : Int) ≤ 9223372036854775807 ∧ (
             ((((((⟨#[67, 65, 83, 84, 32, 40, 32]⟩ : ByteArray) ++ r_at_19) ++ (⟨#[32, 65, 83, 32]⟩ : ByteArray)) ++ t269_2).size + (⟨#[32, 41]⟩ : ByteArray).size : Nat) : Int) ≤ 9223372036854775807 ∧ (
             R (.string (((((⟨#[67, 65, 83, 84, 32, 40, 32]⟩ : ByteArray) ++ r_at_19) ++ (⟨#[32, 65, 83, 32]⟩ : ByteArray)) ++ t269_2) ++ (⟨#[32, 41]⟩ : ByteArray))) w_43))))))))))))))))))))))))))
          ∧ (
           ((((n_Kind == (12 : Int)) && (((n_L_len : Nat) : Int) == (1 : Int))) && (decide (n_N ≥ (1 : Int)))) && (decide (n_N ≤ (3 : Int)))) = false → (
           -- umlautref18.go:110
           ((n_Kind == (14 : Int)) = true → (n_Kind == (14 : Int)) = true) ∧ (
           ((n_Kind == (14 : Int)) = true → (n_Kind == (14 : Int)) = true) ∧ (
           ((n_Kind == (14 : Int)) = true → (n_Kind == (14 : Int)) = true) ∧ (
           ((n_Kind == (14 : Int)) = true → (n_Kind == (14 : Int)) = true) ∧ (
           (
            ((n_Kind == (14 : Int)) && (((n_L_len : Nat) : Int) == (0 : Int))) = true → (
            -- umlautref18.go:111
            ((n_S.size + (⟨#[32, 40, 32, 42, 32, 41]⟩ : ByteArray).size : Nat) : Int) ≤ 9223372036854775807 ∧ (
            ∀ w_44 : World,
            Vc.Fr (fun k => k = b_n) w w_44 → (
            b_n < w_44.heap.size → (
            R (.string (n_S ++ (⟨#[32, 40, 32, 42, 32, 41]⟩ : ByteArray))) w_44)))))
           ∧ (
            ((n_Kind == (14 : Int)) && (((n_L_len : Nat) : Int) == (0 : Int))) = false → (
            -- umlautref18.go:112
            ((!(n_Kind == (13 : Int))) = true → (!(n_Kind == (13 : Int))) = true) ∧ (
            ((!(n_Kind == (13 : Int))) = true → (!(n_Kind == (13 : Int))) = true) ∧ (
            ((n_Kind == (13 : Int)) = false → (!(n_Kind == (13 : Int))) = true) ∧ (
            (((n_Kind == (13 : Int)) || (n_Kind == (14 : Int))) = true → ((n_Kind == (13 : Int)) || (n_Kind == (14 : Int))) = true) ∧ (
            (((n_Kind == (13 : Int)) || (n_Kind == (14 : Int))) = true → ((n_Kind == (13 : Int)) || (n_Kind == (14 : Int))) = true) ∧ (
            (((n_Kind == (13 : Int)) || (n_Kind == (14 : Int))) = true → ((n_Kind == (13 : Int)) || (n_Kind == (14 : Int))) = true) ∧ (
            (((n_Kind == (13 : Int)) || (n_Kind == (14 : Int))) = true → ((n_Kind == (13 : Int)) || (n_Kind == (14 : Int))) = true) ∧ (
            (
             (((n_Kind == (13 : Int)) || (n_Kind == (14 : Int))) && (((n_L_len : Nat) : Int) == (1 : Int))) = true → (
             -- umlautref18.go:113 (draws)
             ∀ w_45 : World,
             Vc.Fr (fun k => k = b_n) w w_45 → (
             b_n < w_45.heap.size → (
             ((n_S.size + (⟨#[32, 40, 32]⟩ : ByteArray).size : Nat) : Int) ≤ 9223372036854775807 ∧ (
             ∃ p_18 : Addr,
             n_L = some p_18 ∧ (
             (0 ≤ (0 : Int) ∧ (0 : Int) < ((n_L_len : Nat) : Int)) ∧ (
             ∃ t306_Kind : Int,
             w_45.cell? (p_18.add ((0 : Int).toNat * 6)) = some (.int .i64 t306_Kind) ∧ (
             ∃ t306_Op : Int,
             w_45.cell? ((p_18.add ((0 : Int).toNat * 6)).add 1) = some (.int .i64 t306_Op) ∧ (
             ∃ t306_S : ByteArray,
             w_45.cell? ((p_18.add ((0 : Int).toNat * 6)).add 2) = some (.string t306_S) ∧ (
             ∃ t306_T : ByteArray,
             w_45.cell? ((p_18.add ((0 : Int).toNat * 6)).add 3) = some (.string t306_T) ∧ (
             ∃ t306_N : Int,
             w_45.cell? ((p_18.add ((0 : Int).toNat * 6)).add 4) = some (.int .i64 t306_N) ∧ (
             ∃ (t306_L : Option Addr) (t306_L_len t306_L_cap : Nat),
             w_45.cell? ((p_18.add ((0 : Int).toNat * 6)).add 5) = some (.slice t306_L t306_L_len t306_L_cap) ∧ (
             Calls Try.prog 22 #[.agg #[.int .i64 t306_Kind, .int .i64 t306_Op, .string t306_S, .string t306_T, .int .i64 t306_N, .slice t306_L t306_L_len t306_L_cap], .int .i64 (1 : Int)] w_45 fun (e : Ending) (w_46 : World) => (
             ∃ r_at_20 : ByteArray,
             e = .returned (.string r_at_20) ∧ (
             (b_n < w_45.heap.size → w_46.heap[b_n]? = w_45.heap[b_n]?) ∧ (
             Vc.Fr (fun k => False) w_45 w_46 ∧ (
             (((n_S ++ (⟨#[32, 40, 32]⟩ : ByteArray)).size + r_at_20.size : Nat) : Int) ≤ 9223372036854775807 ∧ (
             ((((n_S ++ (⟨#[32, 40, 32]⟩ : ByteArray)) ++ r_at_20).size + (⟨#[32, 41]⟩ : ByteArray).size : Nat) : Int) ≤ 9223372036854775807 ∧ (
             R (.string (((n_S ++ (⟨#[32, 40, 32]⟩ : ByteArray)) ++ r_at_20) ++ (⟨#[32, 41]⟩ : ByteArray))) w_46)))))))))))))))))))
            ∧ (
             (((n_Kind == (13 : Int)) || (n_Kind == (14 : Int))) && (((n_L_len : Nat) : Int) == (1 : Int))) = false → (
             -- umlautref18.go:114
             ((n_Kind == (4 : Int)) = true → (n_Kind == (4 : Int)) = true) ∧ (
             ((n_Kind == (4 : Int)) = true → (n_Kind == (4 : Int)) = true) ∧ (
             ((n_Kind == (4 : Int)) = true → (n_Kind == (4 : Int)) = true) ∧ (
             (
              ((n_Kind == (4 : Int)) && (!(n_T.toList == (⟨#[]⟩ : ByteArray).toList))) = true → (
              -- umlautref18.go:115
              ((n_T.size + (⟨#[32, 46, 32]⟩ : ByteArray).size : Nat) : Int) ≤ 9223372036854775807 ∧ (
              (((n_T ++ (⟨#[32, 46, 32]⟩ : ByteArray)).size + n_S.size : Nat) : Int) ≤ 9223372036854775807 ∧ (
              ∀ w_47 : World,
              Vc.Fr (fun k => k = b_n) w w_47 → (
              b_n < w_47.heap.size → (
              R (.string ((n_T ++ (⟨#[32, 46, 32]⟩ : ByteArray)) ++ n_S)) w_47))))))
             ∧ (
              ((n_Kind == (4 : Int)) && (!(n_T.toList == (⟨#[]⟩ : ByteArray).toList))) = false → (
              -- umlautref18.go:116
              (
               (n_Kind == (4 : Int)) = true → (
               -- umlautref18.go:117
               ∀ w_48 : World,
               Vc.Fr (fun k => k = b_n) w w_48 → (
               b_n < w_48.heap.size → (
               R (.string n_S) w_48))))
              ∧ (
               (n_Kind == (4 : Int)) = false → (
               -- umlautref18.go:118
               (
                (n_Kind == (2 : Int)) = true → (
                -- umlautref18.go:119
                ∀ w_49 : World,
                Vc.Fr (fun k => k = b_n) w w_49 → (
                b_n < w_49.heap.size → (
                Calls Try.prog 26 #[.int .i64 n_N] w_49 fun (e : Ending) (w_50 : World) => (
                ∃ r_Text : ByteArray,
                e = .returned (.string r_Text) ∧ (
                (b_n < w_49.heap.size → w_50.heap[b_n]? = w_49.heap[b_n]?) ∧ (
                R (.string r_Text) w_50)))))))
               ∧ (
                (n_Kind == (2 : Int)) = false → (
                -- umlautref18.go:120
                (
                 (n_Kind == (3 : Int)) = true → (
                 -- umlautref18.go:121
                 ∀ w_51 : World,
                 Vc.Fr (fun k => k = b_n) w w_51 → (
                 b_n < w_51.heap.size → (
                 Calls Try.prog 28 #[.string n_S] w_51 fun (e : Ending) (w_52 : World) => (
                 ∃ r_Text_Kind : Int,
                 ∃ r_Text_N : Int,
                 ∃ r_Text_S : ByteArray,
                 e = .returned (.agg #[.int .i64 r_Text_Kind, .int .i64 r_Text_N, .string r_Text_S]) ∧ (
                 (b_n < w_51.heap.size → w_52.heap[b_n]? = w_51.heap[b_n]?) ∧ (
                 Calls Try.prog 27 #[.agg #[.int .i64 r_Text_Kind, .int .i64 r_Text_N, .string r_Text_S]] w_52 fun (e : Ending) (w_53 : World) => (
                 ∃ r_Print : ByteArray,
                 e = .returned (.string r_Print) ∧ (
                 (b_n < w_52.heap.size → w_53.heap[b_n]? = w_52.heap[b_n]?) ∧ (
                 R (.string r_Print) w_53))))))))))
                ∧ (
                 (n_Kind == (3 : Int)) = false → (
                 -- umlautref18.go:122
                 ((n_Kind == (1 : Int)) = true → (n_Kind == (1 : Int)) = true) ∧ (
                 ((n_Kind == (1 : Int)) = true → (n_Kind == (1 : Int)) = true) ∧ (
                 ((n_Kind == (1 : Int)) = true → (n_Kind == (1 : Int)) = true) ∧ (
                 (
                  ((n_Kind == (1 : Int)) && (n_N == (1 : Int))) = true → (
                  -- umlautref18.go:123
                  ∀ w_54 : World,
                  Vc.Fr (fun k => k = b_n) w w_54 → (
                  b_n < w_54.heap.size → (
                  R (.string (⟨#[84, 82, 85, 69]⟩ : ByteArray)) w_54))))
                 ∧ (
                  ((n_Kind == (1 : Int)) && (n_N == (1 : Int))) = false → (
                  -- umlautref18.go:124
                  (
                   (n_Kind == (1 : Int)) = true → (
                   -- umlautref18.go:125
                   ∀ w_55 : World,
                   Vc.Fr (fun k => k = b_n) w w_55 → (
                   b_n < w_55.heap.size → (
                   R (.string (⟨#[70, 65, 76, 83, 69]⟩ : ByteArray)) w_55))))
                  ∧ (
                   (n_Kind == (1 : Int)) = false → (
                   -- umlautref18.go:126
                   (
                    (n_Kind == (0 : Int)) = true → (
                    -- umlautref18.go:127
                    ∀ w_56 : World,
                    Vc.Fr (fun k => k = b_n) w w_56 → (
                    b_n < w_56.heap.size → (
                    R (.string (⟨#[78, 85, 76, 76]⟩ : ByteArray)) w_56))))
                   ∧ (
                    (n_Kind == (0 : Int)) = false → (
                    -- umlautref18.go:129
                    ∀ w_57 : World,
                    Vc.Fr (fun k => k = b_n) w w_57 → (
                    b_n < w_57.heap.size → (
                    R (.string (⟨#[63]⟩ : ByteArray)) w_57))))))))))))))))))))))))))))))))))))))))))))))))))))))))))))))))))))))))))))))))))))))))))))))))))
def Sh.ref18_words_h : Vc.H := (.seq (.reg (.o 0 1 (.p 1 0 (.done 0)))) (.seq (.block (.seq (.reg (.p 0 0 (.p 1 0 (.p 2 0 (.p 3 0 (.p 4 0 (.p 5 0 (.p 6 0 (.p 7 0 (.p 8 0 (.p 9 0 (.done 0)))))))))))) (.cond false (.seq (.reg (.p 0 0 (.o 1 0 (.p 2 0 (.done 0))))) (.seq (.seq (.reg (.p 0 0 (.p 1 0 (.done 0)))) (.cond false (.seq (.draw false [] (.p 0 0 (.p 1 0 (.p 2 1 (.l 3 (.p 6 0 (.p 7 0 (.p 11 0 (.p 12 0 (.p 13 1 (.l 14 (.o 4 0 (.p 5 0 (.o 8 0 (.p 9 0 (.p 10 0 (.o 15 0 (.p 16 0 (.p 17 0 (.done 0)))))))))))))))))))) (.nil 0)) (.nil 0))) (.seq (.draw false [] (.p 0 0 (.p 1 0 (.p 2 1 (.l 3 (.p 4 0 (.p 7 0 (.p 8 0 (.p 12 0 (.p 13 0 (.p 14 1 (.l 15 (.p 16 0 (.p 17 0 (.o 5 0 (.p 6 0 (.o 9 0 (.p 10 0 (.p 11 0 (.o 18 0 (.p 19 0 (.p 20 0 (.done 0))))))))))))))))))))))) (.nil 0)))) (.seq (.reg (.p 0 0 (.p 1 0 (.p 2 0 (.p 3 0 (.p 4 0 (.p 5 0 (.p 6 0 (.p 7 0 (.p 8 0 (.p 9 0 (.done 0)))))))))))) (.cond false (.seq (.seq (.reg (.p 0 0 (.p 1 0 (.p 2 0 (.done 0))))) (.cond false (.seq (.reg (.p 0 0 (.p 1 0 (.p 2 1 (.o 3 0 (.o 4 0 (.p 5 0 (.p 6 0 (.done 0))))))))) (.nil 0)) (.nil 0))) (.seq (.reg (.p 0 0 (.p 1 0 (.p 2 1 (.o 3 0 (.o 4 0 (.p 5 0 (.p 6 0 (.done 0))))))))) (.nil 0))) (.seq (.reg (.p 0 0 (.p 1 0 (.p 2 0 (.p 3 0 (.p 4 0 (.p 5 0 (.p 6 0 (.p 7 0 (.p 8 0 (.p 9 0 (.done 0)))))))))))) (.cond false (.seq (.draw false [] (.p 0 0 (.p 1 0 (.p 2 1 (.l 3 (.p 6 0 (.o 4 0 (.p 5 0 (.o 7 0 (.p 8 0 (.p 9 0 (.p 10 0 (.done 0))))))))))))) (.nil 0)) (.seq (.reg (.p 0 0 (.p 1 0 (.p 2 0 (.p 3 0 (.p 4 0 (.p 5 0 (.p 6 0 (.p 7 0 (.p 8 0 (.p 9 0 (.done 0)))))))))))) (.cond false (.seq (.draw false [] (.p 0 0 (.p 1 0 (.p 2 1 (.l 3 (.p 6 0 (.p 10 0 (.p 11 0 (.p 12 1 (.l 13 (.o 4 0 (.p 5 0 (.o 7 0 (.p 8 0 (.p 9 0 (.o 14 0 (.p 15 0 (.p 16 0 (.done 0))))))))))))))))))) (.nil 0)) (.seq (.reg (.p 0 0 (.p 1 0 (.p 2 0 (.p 3 0 (.p 4 0 (.p 5 0 (.p 6 0 (.p 7 0 (.p 8 0 (.p 9 0 (.done 0)))))))))))) (.cond false (.seq (.draw false [] (.p 0 0 (.p 1 0 (.p 2 1 (.l 3 (.p 6 0 (.p 10 0 (.p 11 0 (.p 12 1 (.l 13 (.p 17 0 (.p 18 0 (.p 19 1 (.l 20 (.o 4 0 (.p 5 0 (.o 7 0 (.p 8 0 (.p 9 0 (.o 14 0 (.p 15 0 (.p 16 0 (.o 21 0 (.p 22 0 (.p 23 0 (.done 0)))))))))))))))))))))))))) (.nil 0)) (.seq (.reg (.p 0 0 (.p 1 0 (.p 2 0 (.p 3 0 (.p 4 0 (.p 5 0 (.p 6 0 (.p 7 0 (.p 8 0 (.p 9 0 (.done 0)))))))))))) (.cond false (.seq (.draw false [] (.p 0 0 (.p 1 0 (.p 2 1 (.l 3 (.p 6 0 (.p 10 0 (.p 11 0 (.p 12 0 (.o 4 0 (.p 5 0 (.o 7 0 (.p 8 0 (.p 9 0 (.o 13 0 (.p 14 0 (.p 15 0 (.p 16 0 (.done 0))))))))))))))))))) (.nil 0)) (.seq (.reg (.p 0 0 (.p 1 0 (.p 2 0 (.p 3 0 (.p 4 0 (.p 5 0 (.p 6 0 (.p 7 0 (.p 8 0 (.p 9 0 (.done 0)))))))))))) (.cond false (.seq (.draw false [] (.p 0 0 (.p 1 0 (.p 2 1 (.l 3 (.p 6 0 (.p 10 0 (.p 11 0 (.p 12 1 (.l 13 (.p 17 0 (.p 18 0 (.p 19 1 (.l 20 (.o 4 0 (.p 5 0 (.o 7 0 (.p 8 0 (.p 9 0 (.o 14 0 (.p 15 0 (.p 16 0 (.o 21 0 (.p 22 0 (.p 23 0 (.done 0)))))))))))))))))))))))))) (.nil 0)) (.seq (.reg (.p 0 0 (.p 1 0 (.p 2 0 (.p 3 0 (.p 4 0 (.p 5 0 (.p 6 0 (.p 7 0 (.p 8 0 (.p 9 0 (.done 0)))))))))))) (.cond false (.seq (.draw false [] (.p 0 0 (.p 1 0 (.p 2 1 (.l 3 (.p 6 0 (.p 7 0 (.o 4 0 (.p 5 0 (.p 8 0 (.p 9 0 (.done 0)))))))))))) (.nil 0)) (.seq (.reg (.p 0 0 (.p 1 0 (.p 2 0 (.p 3 0 (.p 4 0 (.p 5 0 (.p 6 0 (.p 7 0 (.p 8 0 (.p 9 0 (.p 10 0 (.p 11 0 (.p 12 0 (.p 13 0 (.p 14 0 (.p 15 0 (.p 16 0 (.p 17 0 (.p 18 0 (.p 19 0 (.done 0)))))))))))))))))))))) (.cond false (.seq (.draw false [] (.p 0 0 (.p 1 0 (.p 2 1 (.l 3 (.p 8 0 (.p 9 0 (.p 10 0 (.br 4 0 (.p 5 0 (.p 6 0 (.o 7 0 (.p 11 0 (.o 12 0 (.p 13 0 (.p 14 0 (.p 15 0 (.done 0))))))))) (.o 7 0 (.p 11 0 (.br 4 0 (.p 5 0 (.p 6 0 (.o 12 0 (.p 13 0 (.p 14 0 (.p 15 0 (.done 0))))))) (.o 12 0 (.o 4 0 (.p 5 0 (.p 6 0 (.p 13 0 (.p 14 0 (.p 15 0 (.done 0)))))))))))))))))))) (.nil 0)) (.seq (.reg (.p 0 0 (.p 1 0 (.p 2 0 (.p 3 0 (.p 4 0 (.p 5 0 (.p 6 0 (.p 7 0 (.p 8 0 (.p 9 0 (.done 0)))))))))))) (.cond false (.seq (.reg (.p 0 0 (.p 1 0 (.p 2 0 (.p 3 0 (.done 0)))))) (.nil 0)) (.seq (.reg (.p 0 0 (.p 1 0 (.p 2 0 (.p 3 0 (.p 4 0 (.p 5 0 (.p 6 0 (.p 7 0 (.p 8 0 (.p 9 0 (.p 10 0 (.p 11 0 (.p 12 0 (.p 13 0 (.p 14 0 (.done 0))))))))))))))))) (.cond false (.seq (.draw false [] (.p 0 0 (.p 1 0 (.p 2 0 (.p 3 0 (.p 4 0 (.p 5 1 (.l 6 (.o 7 0 (.p 8 0 (.p 9 0 (.p 10 0 (.done 0))))))))))))) (.nil 0)) (.seq (.reg (.p 0 0 (.p 1 0 (.p 2 0 (.p 3 0 (.p 4 0 (.p 5 0 (.p 6 0 (.p 7 0 (.p 8 0 (.done 0))))))))))) (.cond false (.seq (.reg (.p 0 0 (.p 1 0 (.p 2 0 (.p 3 0 (.p 4 0 (.p 5 0 (.p 6 0 (.done 0))))))))) (.nil 0)) (.seq (.reg (.p 0 0 (.p 1 0 (.p 2 0 (.p 3 0 (.done 0)))))) (.cond false (.seq (.reg (.p 0 0 (.p 1 0 (.p 2 0 (.done 0))))) (.nil 0)) (.seq (.reg (.p 0 0 (.p 1 0 (.p 2 0 (.p 3 0 (.done 0)))))) (.cond false (.seq (.reg (.p 0 0 (.p 1 0 (.o 2 0 (.p 3 0 (.done 0)))))) (.nil 0)) (.seq (.reg (.p 0 0 (.p 1 0 (.p 2 0 (.p 3 0 (.done 0)))))) (.cond false (.seq (.reg (.p 0 0 (.p 1 0 (.o 2 0 (.o 3 0 (.p 4 0 (.done 0))))))) (.nil 0)) (.seq (.reg (.p 0 0 (.p 1 0 (.p 2 0 (.p 3 0 (.p 4 0 (.p 5 0 (.p 6 0 (.p 7 0 (.p 8 0 (.done 0))))))))))) (.cond false (.seq (.reg (.p 0 0 (.done 0))) (.nil 0)) (.seq (.reg (.p 0 0 (.p 1 0 (.p 2 0 (.p 3 0 (.done 0)))))) (.cond false (.seq (.reg (.p 0 0 (.done 0))) (.nil 0)) (.seq (.reg (.p 0 0 (.p 1 0 (.p 2 0 (.p 3 0 (.done 0)))))) (.cond false (.seq (.reg (.p 0 0 (.done 0))) (.nil 0)) (.nil 0)))))))))))))))))))))))))))))))))))))) (.seq (.reg (.p 0 0 (.done 0))) (.nil 0))))
theorem Sh.ref18_words_eq (n_Kind : Int) (n_Op : Int) (n_S : ByteArray) (n_T : ByteArray) (n_N : Int) (n_L : Option Addr) (n_L_len n_L_cap : Nat) (w : World) (R : Value → World → Prop) : Sh.ref18_words n_Kind n_Op n_S n_T n_N n_L n_L_len n_L_cap w R = Vc.vcFn Try.prog tab okF Try.f16 Sh.ref18_words_h [.agg #[.int .i64 n_Kind, .int .i64 n_Op, .string n_S, .string n_T, .int .i64 n_N, .slice n_L n_L_len n_L_cap]] w R := by kernel_rfl
theorem Sh.ref18_words_calls (n_Kind : Int) (n_Op : Int) (n_S : ByteArray) (n_T : ByteArray) (n_N : Int) (n_L : Option Addr) (n_L_len n_L_cap : Nat) {w : World} {R : Value → World → Prop} (h : Sh.ref18_words n_Kind n_Op n_S n_T n_N n_L n_L_len n_L_cap w R) : Calls Try.prog 16 #[.agg #[.int .i64 n_Kind, .int .i64 n_Op, .string n_S, .string n_T, .int .i64 n_N, .slice n_L n_L_len n_L_cap]] w fun e w' => ∃ v, e = .returned v ∧ R v w' :=
  Vc.fn_calls mixed tabOk okF_ok Try.func16 (by kernel_rfl) (by kernel_rfl) (by rw [← Sh.ref18_words_eq n_Kind n_Op n_S n_T n_N n_L n_L_len n_L_cap]; exact h)

def Sh.ref18_Level (n_Kind : Int) (n_Op : Int) (n_S : ByteArray) (n_T : ByteArray) (n_N : Int) (n_L : Option Addr) (n_L_len n_L_cap : Nat) (w : World) (R : Value → World → Prop) : Prop :=
  -- umlautref18.go:21
  ∀ b_n : Nat,
  w.heap.size ≤ b_n → (
  -- umlautref18.go:22
  -- umlautref18.go:23
  (
   (n_Kind == (6 : Int)) = true → (
   -- umlautref18.go:24
   -- umlautref18.go:25
   (
    (n_Op == (19 : Int)) = true → (
    (
     (n_Op == (19 : Int)) = true → (
     -- umlautref18.go:26
     ∀ w_1 : World,
     Vc.Fr (fun k => k = b_n) w w_1 → (
     b_n < w_1.heap.size → (
     R (.int .i64 (1 : Int)) w_1))))
    ∧ (
     (n_Op == (19 : Int)) = false → (
     -- umlautref18.go:27
     (
      (n_Op == (18 : Int)) = true → (
      -- umlautref18.go:28
      ∀ w_2 : World,
      Vc.Fr (fun k => k = b_n) w w_2 → (
      b_n < w_2.heap.size → (
      R (.int .i64 (2 : Int)) w_2))))
     ∧ (
      (n_Op == (18 : Int)) = false → (
      -- umlautref18.go:29
      (
       (n_Op == (15 : Int)) = true → (
       (
        (n_Op == (15 : Int)) = true → (
        -- umlautref18.go:30
        ∀ w_3 : World,
        Vc.Fr (fun k => k = b_n) w w_3 → (
        b_n < w_3.heap.size → (
        R (.int .i64 (5 : Int)) w_3))))
       ∧ (
        (n_Op == (15 : Int)) = false → (
        -- umlautref18.go:31
        (
         (n_Op == (14 : Int)) = true → (
         -- umlautref18.go:32
         ∀ w_4 : World,
         Vc.Fr (fun k => k = b_n) w w_4 → (
         b_n < w_4.heap.size → (
         R (.int .i64 (6 : Int)) w_4))))
        ∧ (
         (n_Op == (14 : Int)) = false → (
         -- umlautref18.go:33
         (
          (n_Op == (12 : Int)) = true → (
          (
           (n_Op == (12 : Int)) = true → (
           -- umlautref18.go:34
           ∀ w_5 : World,
           Vc.Fr (fun k => k = b_n) w w_5 → (
           b_n < w_5.heap.size → (
           R (.int .i64 (7 : Int)) w_5))))
          ∧ (
           (n_Op == (12 : Int)) = false → (
           -- umlautref18.go:35
           (
            (n_Op == (7 : Int)) = true → (
            (
             (n_Op == (7 : Int)) = true → (
             -- umlautref18.go:36
             ∀ w_6 : World,
             Vc.Fr (fun k => k = b_n) w w_6 → (
             b_n < w_6.heap.size → (
             R (.int .i64 (8 : Int)) w_6))))
            ∧ (
             (n_Op == (7 : Int)) = false → (
             -- umlautref18.go:37
             (
              (n_Op == (9 : Int)) = true → (
              (
               (n_Op == (9 : Int)) = true → (
               -- umlautref18.go:38
               ∀ w_7 : World,
               Vc.Fr (fun k => k = b_n) w w_7 → (
               b_n < w_7.heap.size → (
               R (.int .i64 (9 : Int)) w_7))))
              ∧ (
               (n_Op == (9 : Int)) = false → (
               -- umlautref18.go:40
               ∀ w_8 : World,
               Vc.Fr (fun k => k = b_n) w w_8 → (
               b_n < w_8.heap.size → (
               R (.int .i64 (4 : Int)) w_8))))))
             ∧ (
              (n_Op == (9 : Int)) = false → (
              -- umlautref18.go:37
              (
               (n_Op == (10 : Int)) = true → (
               (
                (n_Op == (10 : Int)) = true → (
                -- umlautref18.go:38
                ∀ w_9 : World,
                Vc.Fr (fun k => k = b_n) w w_9 → (
                b_n < w_9.heap.size → (
                R (.int .i64 (9 : Int)) w_9))))
               ∧ (
                (n_Op == (10 : Int)) = false → (
                -- umlautref18.go:40
                ∀ w_10 : World,
                Vc.Fr (fun k => k = b_n) w w_10 → (
                b_n < w_10.heap.size → (
                R (.int .i64 (4 : Int)) w_10))))))
              ∧ (
               (n_Op == (10 : Int)) = false → (
               -- umlautref18.go:37
               (
                (n_Op == (11 : Int)) = true → (
                -- umlautref18.go:38
                ∀ w_11 : World,
                Vc.Fr (fun k => k = b_n) w w_11 → (
                b_n < w_11.heap.size → (
                R (.int .i64 (9 : Int)) w_11))))
               ∧ (
                (n_Op == (11 : Int)) = false → (
                -- umlautref18.go:40
                ∀ w_12 : World,
                Vc.Fr (fun k => k = b_n) w w_12 → (
                b_n < w_12.heap.size → (
                R (.int .i64 (4 : Int)) w_12))))))))))))
           ∧ (
            (n_Op == (7 : Int)) = false → (
            -- umlautref18.go:35
            (
             (n_Op == (8 : Int)) = true → (
             (
              (n_Op == (8 : Int)) = true → (
              -- umlautref18.go:36
              ∀ w_13 : World,
              Vc.Fr (fun k => k = b_n) w w_13 → (
              b_n < w_13.heap.size → (
              R (.int .i64 (8 : Int)) w_13))))
             ∧ (
              (n_Op == (8 : Int)) = false → (
              -- umlautref18.go:37
              (
               (n_Op == (9 : Int)) = true → (
               (
                (n_Op == (9 : Int)) = true → (
                -- umlautref18.go:38
                ∀ w_14 : World,
                Vc.Fr (fun k => k = b_n) w w_14 → (
                b_n < w_14.heap.size → (
                R (.int .i64 (9 : Int)) w_14))))
               ∧ (
                (n_Op == (9 : Int)) = false → (
                -- umlautref18.go:40
                ∀ w_15 : World,
                Vc.Fr (fun k => k = b_n) w w_15 → (
                b_n < w_15.heap.size → (
                R (.int .i64 (4 : Int)) w_15))))))
              ∧ (
               (n_Op == (9 : Int)) = false → (
               -- umlautref18.go:37
               (
                (n_Op == (10 : Int)) = true → (
                (
                 (n_Op == (10 : Int)) = true → (
                 -- umlautref18.go:38
                 ∀ w_16 : World,
                 Vc.Fr (fun k => k = b_n) w w_16 → (
                 b_n < w_16.heap.size → (
                 R (.int .i64 (9 : Int)) w_16))))
                ∧ (
                 (n_Op == (10 : Int)) = false → (
                 -- umlautref18.go:40
                 ∀ w_17 : World,
                 Vc.Fr (fun k => k = b_n) w w_17 → (
                 b_n < w_17.heap.size → (
                 R (.int .i64 (4 : Int)) w_17))))))
               ∧ (
                (n_Op == (10 : Int)) = false → (
                -- umlautref18.go:37
                (
                 (n_Op == (11 : Int)) = true → (
                 -- umlautref18.go:38
                 ∀ w_18 : World,
                 Vc.Fr (fun k => k = b_n) w w_18 → (
                 b_n < w_18.heap.size → (
                 R (.int .i64 (9 : Int)) w_18))))
                ∧ (
                 (n_Op == (11 : Int)) = false → (
                 -- umlautref18.go:40
                 ∀ w_19 : World,
                 Vc.Fr (fun k => k = b_n) w w_19 → (
                 b_n < w_19.heap.size → (
                 R (.int .i64 (4 : Int)) w_19))))))))))))
            ∧ (
             (n_Op == (8 : Int)) = false → (
             -- umlautref18.go:35
             (
              (n_Op == (17 : Int)) = true → (
              -- umlautref18.go:36
              ∀ w_20 : World,
              Vc.Fr (fun k => k = b_n) w w_20 → (
              b_n < w_20.heap.size → (
              R (.int .i64 (8 : Int)) w_20))))
             ∧ (
              (n_Op == (17 : Int)) = false → (
              -- umlautref18.go:37
              (
               (n_Op == (9 : Int)) = true → (
               (
                (n_Op == (9 : Int)) = true → (
                -- umlautref18.go:38
                ∀ w_21 : World,
                Vc.Fr (fun k => k = b_n) w w_21 → (
                b_n < w_21.heap.size → (
                R (.int .i64 (9 : Int)) w_21))))
               ∧ (
                (n_Op == (9 : Int)) = false → (
                -- umlautref18.go:40
                ∀ w_22 : World,
                Vc.Fr (fun k => k = b_n) w w_22 → (
                b_n < w_22.heap.size → (
                R (.int .i64 (4 : Int)) w_22))))))
              ∧ (
               (n_Op == (9 : Int)) = false → (
               -- umlautref18.go:37
               (
                (n_Op == (10 : Int)) = true → (
                (
                 (n_Op == (10 : Int)) = true → (
                 -- umlautref18.go:38
                 ∀ w_23 : World,
                 Vc.Fr (fun k => k = b_n) w w_23 → (
                 b_n < w_23.heap.size → (
                 R (.int .i64 (9 : Int)) w_23))))
                ∧ (
                 (n_Op == (10 : Int)) = false → (
                 -- umlautref18.go:40
                 ∀ w_24 : World,
                 Vc.Fr (fun k => k = b_n) w w_24 → (
                 b_n < w_24.heap.size → (
                 R (.int .i64 (4 : Int)) w_24))))))
               ∧ (
                (n_Op == (10 : Int)) = false → (
                -- umlautref18.go:37
                (
                 (n_Op == (11 : Int)) = true → (
                 -- umlautref18.go:38
                 ∀ w_25 : World,
                 Vc.Fr (fun k => k = b_n) w w_25 → (
                 b_n < w_25.heap.size → (
                 R (.int .i64 (9 : Int)) w_25))))
                ∧ (
                 (n_Op == (11 : Int)) = false → (
                 -- umlautref18.go:40
                 ∀ w_26 : World,
                 Vc.Fr (fun k => k = b_n) w w_26 → (
                 b_n < w_26.heap.size → (
                 R (.int .i64 (4 : Int)) w_26))))))))))))))))))
         ∧ (
          (n_Op == (12 : Int)) = false → (
          -- umlautref18.go:33
          (
           (n_Op == (13 : Int)) = true → (
           -- umlautref18.go:34
           ∀ w_27 : World,
           Vc.Fr (fun k => k = b_n) w w_27 → (
           b_n < w_27.heap.size → (
           R (.int .i64 (7 : Int)) w_27))))
          ∧ (
           (n_Op == (13 : Int)) = false → (
           -- umlautref18.go:35
           (
            (n_Op == (7 : Int)) = true → (
            (
             (n_Op == (7 : Int)) = true → (
             -- umlautref18.go:36
             ∀ w_28 : World,
             Vc.Fr (fun k => k = b_n) w w_28 → (
             b_n < w_28.heap.size → (
             R (.int .i64 (8 : Int)) w_28))))
            ∧ (
             (n_Op == (7 : Int)) = false → (
             -- umlautref18.go:37
             (
              (n_Op == (9 : Int)) = true → (
              (
               (n_Op == (9 : Int)) = true → (
               -- umlautref18.go:38
               ∀ w_29 : World,
               Vc.Fr (fun k => k = b_n) w w_29 → (
               b_n < w_29.heap.size → (
               R (.int .i64 (9 : Int)) w_29))))
              ∧ (
               (n_Op == (9 : Int)) = false → (
               -- umlautref18.go:40
               ∀ w_30 : World,
               Vc.Fr (fun k => k = b_n) w w_30 → (
               b_n < w_30.heap.size → (
               R (.int .i64 (4 : Int)) w_30))))))
             ∧ (
              (n_Op == (9 : Int)) = false → (
              -- umlautref18.go:37
              (
               (n_Op == (10 : Int)) = true → (
               (
                (n_Op == (10 : Int)) = true → (
                -- umlautref18.go:38
                ∀ w_31 : World,
                Vc.Fr (fun k => k = b_n) w w_31 → (
                b_n < w_31.heap.size → (
                R (.int .i64 (9 : Int)) w_31))))
               ∧ (
                (n_Op == (10 : Int)) = false → (
                -- umlautref18.go:40
                ∀ w_32 : World,
                Vc.Fr (fun k => k = b_n) w w_32 → (
                b_n < w_32.heap.size → (
                R (.int .i64 (4 : Int)) w_32))))))
              ∧ (
               (n_Op == (10 : Int)) = false → (
               -- umlautref18.go:37
               (
                (n_Op == (11 : Int)) = true → (
                -- umlautref18.go:38
                ∀ w_33 : World,
                Vc.Fr (fun k => k = b_n) w w_33 → (
                b_n < w_33.heap.size → (
                R (.int .i64 (9 : Int)) w_33))))
               ∧ (
                (n_Op == (11 : Int)) = false → (
                -- umlautref18.go:40
                ∀ w_34 : World,
                Vc.Fr (fun k => k = b_n) w w_34 → (
                b_n < w_34.heap.size → (
                R (.int .i64 (4 : Int)) w_34))))))))))))
           ∧ (
            (n_Op == (7 : Int)) = false → (
            -- umlautref18.go:35
            (
             (n_Op == (8 : Int)) = true → (
             (
              (n_Op == (8 : Int)) = true → (
              -- umlautref18.go:36
              ∀ w_35 : World,
              Vc.Fr (fun k => k = b_n) w w_35 → (
              b_n < w_35.heap.size → (
              R (.int .i64 (8 : Int)) w_35))))
             ∧ (
              (n_Op == (8 : Int)) = false → (
              -- umlautref18.go:37
              (
               (n_Op == (9 : Int)) = true → (
               (
                (n_Op == (9 : Int)) = true → (
                -- umlautref18.go:38
                ∀ w_36 : World,
                Vc.Fr (fun k => k = b_n) w w_36 → (
                b_n < w_36.heap.size → (
                R (.int .i64 (9 : Int)) w_36))))
               ∧ (
                (n_Op == (9 : Int)) = false → (
                -- umlautref18.go:40
                ∀ w_37 : World,
                Vc.Fr (fun k => k = b_n) w w_37 → (
                b_n < w_37.heap.size → (
                R (.int .i64 (4 : Int)) w_37))))))
              ∧ (
               (n_Op == (9 : Int)) = false → (
               -- umlautref18.go:37
               (
                (n_Op == (10 : Int)) = true → (
                (
                 (n_Op == (10 : Int)) = true → (
                 -- umlautref18.go:38
                 ∀ w_38 : World,
                 Vc.Fr (fun k => k = b_n) w w_38 → (
                 b_n < w_38.heap.size → (
                 R (.int .i64 (9 : Int)) w_38))))
                ∧ (
                 (n_Op == (10 : Int)) = false → (
                 -- umlautref18.go:40
                 ∀ w_39 : World,
                 Vc.Fr (fun k => k = b_n) w w_39 → (
                 b_n < w_39.heap.size → (
                 R (.int .i64 (4 : Int)) w_39))))))
               ∧ (
                (n_Op == (10 : Int)) = false → (
                -- umlautref18.go:37
                (
                 (n_Op == (11 : Int)) = true → (
                 -- umlautref18.go:38
                 ∀ w_40 : World,
                 Vc.Fr (fun k => k = b_n) w w_40 → (
                 b_n < w_40.heap.size → (
                 R (.int .i64 (9 : Int)) w_40))))
                ∧ (
                 (n_Op == (11 : Int)) = false → (
                 -- umlautref18.go:40
                 ∀ w_41 : World,
                 Vc.Fr (fun k => k = b_n) w w_41 → (
                 b_n < w_41.heap.size → (
                 R (.int .i64 (4 : Int)) w_41))))))))))))
            ∧ (
             (n_Op == (8 : Int)) = false → (
             -- umlautref18.go:35
             (
              (n_Op == (17 : Int)) = true → (
              -- umlautref18.go:36
              ∀ w_42 : World,
              Vc.Fr (fun k => k = b_n) w w_42 → (
              b_n < w_42.heap.size → (
              R (.int .i64 (8 : Int)) w_42))))
             ∧ (
              (n_Op == (17 : Int)) = false → (
              -- umlautref18.go:37
              (
               (n_Op == (9 : Int)) = true → (
               (
                (n_Op == (9 : Int)) = true → (
                -- umlautref18.go:38
                ∀ w_43 : World,
                Vc.Fr (fun k => k = b_n) w w_43 → (
                b_n < w_43.heap.size → (
                R (.int .i64 (9 : Int)) w_43))))
               ∧ (
                (n_Op == (9 : Int)) = false → (
                -- umlautref18.go:40
                ∀ w_44 : World,
                Vc.Fr (fun k => k = b_n) w w_44 → (
                b_n < w_44.heap.size → (
                R (.int .i64 (4 : Int)) w_44))))))
              ∧ (
               (n_Op == (9 : Int)) = false → (
               -- umlautref18.go:37
               (
                (n_Op == (10 : Int)) = true → (
                (
                 (n_Op == (10 : Int)) = true → (
                 -- umlautref18.go:38
                 ∀ w_45 : World,
                 Vc.Fr (fun k => k = b_n) w w_45 → (
                 b_n < w_45.heap.size → (
                 R (.int .i64 (9 : Int)) w_45))))
                ∧ (
                 (n_Op == (10 : Int)) = false → (
                 -- umlautref18.go:40
                 ∀ w_46 : World,
                 Vc.Fr (fun k => k = b_n) w w_46 → (
                 b_n < w_46.heap.size → (
                 R (.int .i64 (4 : Int)) w_46))))))
               ∧ (
                (n_Op == (10 : Int)) = false → (
                -- umlautref18.go:37
                (
                 (n_Op == (11 : Int)) = true → (
                 -- umlautref18.go:38
                 ∀ w_47 : World,
                 Vc.Fr (fun k => k = b_n) w w_47 → (
                 b_n < w_47.heap.size → (
                 R (.int .i64 (9 : Int)) w_47))))
                ∧ (
                 (n_Op == (11 : Int)) = false → (
                 -- umlautref18.go:40
                 ∀ w_48 : World,
                 Vc.Fr (fun k => k = b_n) w w_48 → (
                 b_n < w_48.heap.size → (
                 R (.int .i64 (4 : Int)) w_48))))))))))))))))))))))))
      ∧ (
       (n_Op == (15 : Int)) = false → (
       -- umlautref18.go:29
       (
        (n_Op == (16 : Int)) = true → (
        -- umlautref18.go:30
        ∀ w_49 : World,
        Vc.Fr (fun k => k = b_n) w w_49 → (
        b_n < w_49.heap.size → (
        R (.int .i64 (5 : Int)) w_49))))
       ∧ (
        (n_Op == (16 : Int)) = false → (
        -- umlautref18.go:31
        (
         (n_Op == (14 : Int)) = true → (
         -- umlautref18.go:32
         ∀ w_50 : World,
         Vc.Fr (fun k => k = b_n) w w_50 → (
         b_n < w_50.heap.size → (
         R (.int .i64 (6 : Int)) w_50))))
        ∧ (
         (n_Op == (14 : Int)) = false → (
         -- umlautref18.go:33
         (
          (n_Op == (12 : Int)) = true → (
          (
           (n_Op == (12 : Int)) = true → (
           -- umlautref18.go:34
           ∀ w_51 : World,
           Vc.Fr (fun k => k = b_n) w w_51 → (
           b_n < w_51.heap.size → (
           R (.int .i64 (7 : Int)) w_51))))
          ∧ (
           (n_Op == (12 : Int)) = false → (
           -- umlautref18.go:35
           (
            (n_Op == (7 : Int)) = true → (
            (
             (n_Op == (7 : Int)) = true → (
             -- umlautref18.go:36
             ∀ w_52 : World,
             Vc.Fr (fun k => k = b_n) w w_52 → (
             b_n < w_52.heap.size → (
             R (.int .i64 (8 : Int)) w_52))))
            ∧ (
             (n_Op == (7 : Int)) = false → (
             -- umlautref18.go:37
             (
              (n_Op == (9 : Int)) = true → (
              (
               (n_Op == (9 : Int)) = true → (
               -- umlautref18.go:38
               ∀ w_53 : World,
               Vc.Fr (fun k => k = b_n) w w_53 → (
               b_n < w_53.heap.size → (
               R (.int .i64 (9 : Int)) w_53))))
              ∧ (
               (n_Op == (9 : Int)) = false → (
               -- umlautref18.go:40
               ∀ w_54 : World,
               Vc.Fr (fun k => k = b_n) w w_54 → (
               b_n < w_54.heap.size → (
               R (.int .i64 (4 : Int)) w_54))))))
             ∧ (
              (n_Op == (9 : Int)) = false → (
              -- umlautref18.go:37
              (
               (n_Op == (10 : Int)) = true → (
               (
                (n_Op == (10 : Int)) = true → (
                -- umlautref18.go:38
                ∀ w_55 : World,
                Vc.Fr (fun k => k = b_n) w w_55 → (
                b_n < w_55.heap.size → (
                R (.int .i64 (9 : Int)) w_55))))
               ∧ (
                (n_Op == (10 : Int)) = false → (
                -- umlautref18.go:40
                ∀ w_56 : World,
                Vc.Fr (fun k => k = b_n) w w_56 → (
                b_n < w_56.heap.size → (
                R (.int .i64 (4 : Int)) w_56))))))
              ∧ (
               (n_Op == (10 : Int)) = false → (
               -- umlautref18.go:37
               (
                (n_Op == (11 : Int)) = true → (
                -- umlautref18.go:38
                ∀ w_57 : World,
                Vc.Fr (fun k => k = b_n) w w_57 → (
                b_n < w_57.heap.size → (
                R (.int .i64 (9 : Int)) w_57))))
               ∧ (
                (n_Op == (11 : Int)) = false → (
                -- umlautref18.go:40
                ∀ w_58 : World,
                Vc.Fr (fun k => k = b_n) w w_58 → (
                b_n < w_58.heap.size → (
                R (.int .i64 (4 : Int)) w_58))))))))))))
           ∧ (
            (n_Op == (7 : Int)) = false → (
            -- umlautref18.go:35
            (
             (n_Op == (8 : Int)) = true → (
             (
              (n_Op == (8 : Int)) = true → (
              -- umlautref18.go:36
              ∀ w_59 : World,
              Vc.Fr (fun k => k = b_n) w w_59 → (
              b_n < w_59.heap.size → (
              R (.int .i64 (8 : Int)) w_59))))
             ∧ (
              (n_Op == (8 : Int)) = false → (
              -- umlautref18.go:37
              (
               (n_Op == (9 : Int)) = true → (
               (
                (n_Op == (9 : Int)) = true → (
                -- umlautref18.go:38
                ∀ w_60 : World,
                Vc.Fr (fun k => k = b_n) w w_60 → (
                b_n < w_60.heap.size → (
                R (.int .i64 (9 : Int)) w_60))))
               ∧ (
                (n_Op == (9 : Int)) = false → (
                -- umlautref18.go:40
                ∀ w_61 : World,
                Vc.Fr (fun k => k = b_n) w w_61 → (
                b_n < w_61.heap.size → (
                R (.int .i64 (4 : Int)) w_61))))))
              ∧ (
               (n_Op == (9 : Int)) = false → (
               -- umlautref18.go:37
               (
                (n_Op == (10 : Int)) = true → (
                (
                 (n_Op == (10 : Int)) = true → (
                 -- umlautref18.go:38
                 ∀ w_62 : World,
                 Vc.Fr (fun k => k = b_n) w w_62 → (
                 b_n < w_62.heap.size → (
                 R (.int .i64 (9 : Int)) w_62))))
                ∧ (
                 (n_Op == (10 : Int)) = false → (
                 -- umlautref18.go:40
                 ∀ w_63 : World,
                 Vc.Fr (fun k => k = b_n) w w_63 → (
                 b_n < w_63.heap.size → (
                 R (.int .i64 (4 : Int)) w_63))))))
               ∧ (
                (n_Op == (10 : Int)) = false → (
                -- umlautref18.go:37
                (
                 (n_Op == (11 : Int)) = true → (
                 -- umlautref18.go:38
                 ∀ w_64 : World,
                 Vc.Fr (fun k => k = b_n) w w_64 → (
                 b_n < w_64.heap.size → (
                 R (.int .i64 (9 : Int)) w_64))))
                ∧ (
                 (n_Op == (11 : Int)) = false → (
                 -- umlautref18.go:40
                 ∀ w_65 : World,
                 Vc.Fr (fun k => k = b_n) w w_65 → (
                 b_n < w_65.heap.size → (
                 R (.int .i64 (4 : Int)) w_65))))))))))))
            ∧ (
             (n_Op == (8 : Int)) = false → (
             -- umlautref18.go:35
             (
              (n_Op == (17 : Int)) = true → (
              -- umlautref18.go:36
              ∀ w_66 : World,
              Vc.Fr (fun k => k = b_n) w w_66 → (
              b_n < w_66.heap.size → (
              R (.int .i64 (8 : Int)) w_66))))
             ∧ (
              (n_Op == (17 : Int)) = false → (
              -- umlautref18.go:37
              (
               (n_Op == (9 : Int)) = true → (
               (
                (n_Op == (9 : Int)) = true → (
                -- umlautref18.go:38
                ∀ w_67 : World,
                Vc.Fr (fun k => k = b_n) w w_67 → (
                b_n < w_67.heap.size → (
                R (.int .i64 (9 : Int)) w_67))))
               ∧ (
                (n_Op == (9 : Int)) = false → (
                -- umlautref18.go:40
                ∀ w_68 : World,
                Vc.Fr (fun k => k = b_n) w w_68 → (
                b_n < w_68.heap.size → (
                R (.int .i64 (4 : Int)) w_68))))))
              ∧ (
               (n_Op == (9 : Int)) = false → (
               -- umlautref18.go:37
               (
                (n_Op == (10 : Int)) = true → (
                (
                 (n_Op == (10 : Int)) = true → (
                 -- umlautref18.go:38
                 ∀ w_69 : World,
                 Vc.Fr (fun k => k = b_n) w w_69 → (
                 b_n < w_69.heap.size → (
                 R (.int .i64 (9 : Int)) w_69))))
                ∧ (
                 (n_Op == (10 : Int)) = false → (
                 -- umlautref18.go:40
                 ∀ w_70 : World,
                 Vc.Fr (fun k => k = b_n) w w_70 → (
                 b_n < w_70.heap.size → (
                 R (.int .i64 (4 : Int)) w_70))))))
               ∧ (
                (n_Op == (10 : Int)) = false → (
                -- umlautref18.go:37
                (
                 (n_Op == (11 : Int)) = true → (
                 -- umlautref18.go:38
                 ∀ w_71 : World,
                 Vc.Fr (fun k => k = b_n) w w_71 → (
                 b_n < w_71.heap.size → (
                 R (.int .i64 (9 : Int)) w_71))))
                ∧ (
                 (n_Op == (11 : Int)) = false → (
                 -- umlautref18.go:40
                 ∀ w_72 : World,
                 Vc.Fr (fun k => k = b_n) w w_72 → (
                 b_n < w_72.heap.size → (
                 R (.int .i64 (4 : Int)) w_72))))))))))))))))))
         ∧ (
          (n_Op == (12 : Int)) = false → (
          -- umlautref18.go:33
          (
           (n_Op == (13 : Int)) = true → (
           -- umlautref18.go:34
           ∀ w_73 : World,
           Vc.Fr (fun k => k = b_n) w w_73 → (
           b_n < w_73.heap.size → (
           R (.int .i64 (7 : Int)) w_73))))
          ∧ (
           (n_Op == (13 : Int)) = false → (
           -- umlautref18.go:35
           (
            (n_Op == (7 : Int)) = true → (
            (
             (n_Op == (7 : Int)) = true → (
             -- umlautref18.go:36
             ∀ w_74 : World,
             Vc.Fr (fun k => k = b_n) w w_74 → (
             b_n < w_74.heap.size → (
             R (.int .i64 (8 : Int)) w_74))))
            ∧ (
             (n_Op == (7 : Int)) = false → (
             -- umlautref18.go:37
             (
              (n_Op == (9 : Int)) = true → (
              (
               (n_Op == (9 : Int)) = true → (
               -- umlautref18.go:38
               ∀ w_75 : World,
               Vc.Fr (fun k => k = b_n) w w_75 → (
               b_n < w_75.heap.size → (
               R (.int .i64 (9 : Int)) w_75))))
              ∧ (
               (n_Op == (9 : Int)) = false → (
               -- umlautref18.go:40
               ∀ w_76 : World,
               Vc.Fr (fun k => k = b_n) w w_76 → (
               b_n < w_76.heap.size → (
               R (.int .i64 (4 : Int)) w_76))))))
             ∧ (
              (n_Op == (9 : Int)) = false → (
              -- umlautref18.go:37
              (
               (n_Op == (10 : Int)) = true → (
               (
                (n_Op == (10 : Int)) = true → (
                -- umlautref18.go:38
                ∀ w_77 : World,
                Vc.Fr (fun k => k = b_n) w w_77 → (
                b_n < w_77.heap.size → (
                R (.int .i64 (9 : Int)) w_77))))
               ∧ (
                (n_Op == (10 : Int)) = false → (
                -- umlautref18.go:40
                ∀ w_78 : World,
                Vc.Fr (fun k => k = b_n) w w_78 → (
                b_n < w_78.heap.size → (
                R (.int .i64 (4 : Int)) w_78))))))
              ∧ (
               (n_Op == (10 : Int)) = false → (
               -- umlautref18.go:37
               (
                (n_Op == (11 : Int)) = true → (
                -- umlautref18.go:38
                ∀ w_79 : World,
                Vc.Fr (fun k => k = b_n) w w_79 → (
                b_n < w_79.heap.size → (
                R (.int .i64 (9 : Int)) w_79))))
               ∧ (
                (n_Op == (11 : Int)) = false → (
                -- umlautref18.go:40
                ∀ w_80 : World,
                Vc.Fr (fun k => k = b_n) w w_80 → (
                b_n < w_80.heap.size → (
                R (.int .i64 (4 : Int)) w_80))))))))))))
           ∧ (
            (n_Op == (7 : Int)) = false → (
            -- umlautref18.go:35
            (
             (n_Op == (8 : Int)) = true → (
             (
              (n_Op == (8 : Int)) = true → (
              -- umlautref18.go:36
              ∀ w_81 : World,
              Vc.Fr (fun k => k = b_n) w w_81 → (
              b_n < w_81.heap.size → (
              R (.int .i64 (8 : Int)) w_81))))
             ∧ (
              (n_Op == (8 : Int)) = false → (
              -- umlautref18.go:37
              (
               (n_Op == (9 : Int)) = true → (
               (
                (n_Op == (9 : Int)) = true → (
                -- umlautref18.go:38
                ∀ w_82 : World,
                Vc.Fr (fun k => k = b_n) w w_82 → (
                b_n < w_82.heap.size → (
                R (.int .i64 (9 : Int)) w_82))))
               ∧ (
                (n_Op == (9 : Int)) = false → (
                -- umlautref18.go:40
                ∀ w_83 : World,
                Vc.Fr (fun k => k = b_n) w w_83 → (
                b_n < w_83.heap.size → (
                R (.int .i64 (4 : Int)) w_83))))))
              ∧ (
               (n_Op == (9 : Int)) = false → (
               -- umlautref18.go:37
               (
                (n_Op == (10 : Int)) = true → (
                (
                 (n_Op == (10 : Int)) = true → (
                 -- umlautref18.go:38
                 ∀ w_84 : World,
                 Vc.Fr (fun k => k = b_n) w w_84 → (
                 b_n < w_84.heap.size → (
                 R (.int .i64 (9 : Int)) w_84))))
                ∧ (
                 (n_Op == (10 : Int)) = false → (
                 -- umlautref18.go:40
                 ∀ w_85 : World,
                 Vc.Fr (fun k => k = b_n) w w_85 → (
                 b_n < w_85.heap.size → (
                 R (.int .i64 (4 : Int)) w_85))))))
               ∧ (
                (n_Op == (10 : Int)) = false → (
                -- umlautref18.go:37
                (
                 (n_Op == (11 : Int)) = true → (
                 -- umlautref18.go:38
                 ∀ w_86 : World,
                 Vc.Fr (fun k => k = b_n) w w_86 → (
                 b_n < w_86.heap.size → (
                 R (.int .i64 (9 : Int)) w_86))))
                ∧ (
                 (n_Op == (11 : Int)) = false → (
                 -- umlautref18.go:40
                 ∀ w_87 : World,
                 Vc.Fr (fun k => k = b_n) w w_87 → (
                 b_n < w_87.heap.size → (
                 R (.int .i64 (4 : Int)) w_87))))))))))))
            ∧ (
             (n_Op == (8 : Int)) = false → (
             -- umlautref18.go:35
             (
              (n_Op == (17 : Int)) = true → (
              -- umlautref18.go:36
              ∀ w_88 : World,
              Vc.Fr (fun k => k = b_n) w w_88 → (
              b_n < w_88.heap.size → (
              R (.int .i64 (8 : Int)) w_88))))
             ∧ (
              (n_Op == (17 : Int)) = false → (
              -- umlautref18.go:37
              (
               (n_Op == (9 : Int)) = true → (
               (
                (n_Op == (9 : Int)) = true → (
                -- umlautref18.go:38
                ∀ w_89 : World,
                Vc.Fr (fun k => k = b_n) w w_89 → (
                b_n < w_89.heap.size → (
                R (.int .i64 (9 : Int)) w_89))))
               ∧ (
                (n_Op == (9 : Int)) = false → (
                -- umlautref18.go:40
                ∀ w_90 : World,
                Vc.Fr (fun k => k = b_n) w w_90 → (
                b_n < w_90.heap.size → (
                R (.int .i64 (4 : Int)) w_90))))))
              ∧ (
               (n_Op == (9 : Int)) = false → (
               -- umlautref18.go:37
               (
                (n_Op == (10 : Int)) = true → (
                (
                 (n_Op == (10 : Int)) = true → (
                 -- umlautref18.go:38
                 ∀ w_91 : World,
                 Vc.Fr (fun k => k = b_n) w w_91 → (
                 b_n < w_91.heap.size → (
                 R (.int .i64 (9 : Int)) w_91))))
                ∧ (
                 (n_Op == (10 : Int)) = false → (
                 -- umlautref18.go:40
                 ∀ w_92 : World,
                 Vc.Fr (fun k => k = b_n) w w_92 → (
                 b_n < w_92.heap.size → (
                 R (.int .i64 (4 : Int)) w_92))))))
               ∧ (
                (n_Op == (10 : Int)) = false → (
                -- umlautref18.go:37
                (
                 (n_Op == (11 : Int)) = true → (
                 -- umlautref18.go:38
                 ∀ w_93 : World,
                 Vc.Fr (fun k => k = b_n) w w_93 → (
                 b_n < w_93.heap.size → (
                 R (.int .i64 (9 : Int)) w_93))))
                ∧ (
                 (n_Op == (11 : Int)) = false → (
                 -- umlautref18.go:40
                 ∀ w_94 : World,
                 Vc.Fr (fun k => k = b_n) w w_94 → (
                 b_n < w_94.heap.size → (
                 R (.int .i64 (4 : Int)) w_94))))))))))))))))))))))))))))))
   ∧ (
    (n_Op == (19 : Int)) = false → (
    -- umlautref18.go:25
    (
     (n_Op == (22 : Int)) = true → (
     -- umlautref18.go:26
     ∀ w_95 : World,
     Vc.Fr (fun k => k = b_n) w w_95 → (
     b_n < w_95.heap.size → (
     R (.int .i64 (1 : Int)) w_95))))
    ∧ (
     (n_Op == (22 : Int)) = false → (
     -- umlautref18.go:27
     (
      (n_Op == (18 : Int)) = true → (
      -- umlautref18.go:28
      ∀ w_96 : World,
      Vc.Fr (fun k => k = b_n) w w_96 → (
      b_n < w_96.heap.size → (
      R (.int .i64 (2 : Int)) w_96))))
     ∧ (
      (n_Op == (18 : Int)) = false → (
      -- umlautref18.go:29
      (
       (n_Op == (15 : Int)) = true → (
       (
        (n_Op == (15 : Int)) = true → (
        -- umlautref18.go:30
        ∀ w_97 : World,
        Vc.Fr (fun k => k = b_n) w w_97 → (
        b_n < w_97.heap.size → (
        R (.int .i64 (5 : Int)) w_97))))
       ∧ (
        (n_Op == (15 : Int)) = false → (
        -- umlautref18.go:31
        (
         (n_Op == (14 : Int)) = true → (
         -- umlautref18.go:32
         ∀ w_98 : World,
         Vc.Fr (fun k => k = b_n) w w_98 → (
         b_n < w_98.heap.size → (
         R (.int .i64 (6 : Int)) w_98))))
        ∧ (
         (n_Op == (14 : Int)) = false → (
         -- umlautref18.go:33
         (
          (n_Op == (12 : Int)) = true → (
          (
           (n_Op == (12 : Int)) = true → (
           -- umlautref18.go:34
           ∀ w_99 : World,
           Vc.Fr (fun k => k = b_n) w w_99 → (
           b_n < w_99.heap.size → (
           R (.int .i64 (7 : Int)) w_99))))
          ∧ (
           (n_Op == (12 : Int)) = false → (
           -- umlautref18.go:35
           (
            (n_Op == (7 : Int)) = true → (
            (
             (n_Op == (7 : Int)) = true → (
             -- umlautref18.go:36
             ∀ w_100 : World,
             Vc.Fr (fun k => k = b_n) w w_100 → (
             b_n < w_100.heap.size → (
             R (.int .i64 (8 : Int)) w_100))))
            ∧ (
             (n_Op == (7 : Int)) = false → (
             -- umlautref18.go:37
             (
              (n_Op == (9 : Int)) = true → (
              (
               (n_Op == (9 : Int)) = true → (
               -- umlautref18.go:38
               ∀ w_101 : World,
               Vc.Fr (fun k => k = b_n) w w_101 → (
               b_n < w_101.heap.size → (
               R (.int .i64 (9 : Int)) w_101))))
              ∧ (
               (n_Op == (9 : Int)) = false → (
               -- umlautref18.go:40
               ∀ w_102 : World,
               Vc.Fr (fun k => k = b_n) w w_102 → (
               b_n < w_102.heap.size → (
               R (.int .i64 (4 : Int)) w_102))))))
             ∧ (
              (n_Op == (9 : Int)) = false → (
              -- umlautref18.go:37
              (
               (n_Op == (10 : Int)) = true → (
               (
                (n_Op == (10 : Int)) = true → (
                -- umlautref18.go:38
                ∀ w_103 : World,
                Vc.Fr (fun k => k = b_n) w w_103 → (
                b_n < w_103.heap.size → (
                R (.int .i64 (9 : Int)) w_103))))
               ∧ (
                (n_Op == (10 : Int)) = false → (
                -- umlautref18.go:40
                ∀ w_104 : World,
                Vc.Fr (fun k => k = b_n) w w_104 → (
                b_n < w_104.heap.size → (
                R (.int .i64 (4 : Int)) w_104))))))
              ∧ (
               (n_Op == (10 : Int)) = false → (
               -- umlautref18.go:37
               (
                (n_Op == (11 : Int)) = true → (
                -- umlautref18.go:38
                ∀ w_105 : World,
                Vc.Fr (fun k => k = b_n) w w_105 → (
                b_n < w_105.heap.size → (
                R (.int .i64 (9 : Int)) w_105))))
               ∧ (
                (n_Op == (11 : Int)) = false → (
                -- umlautref18.go:40
                ∀ w_106 : World,
                Vc.Fr (fun k => k = b_n) w w_106 → (
                b_n < w_106.heap.size → (
                R (.int .i64 (4 : Int)) w_106))))))))))))
           ∧ (
            (n_Op == (7 : Int)) = false → (
            -- umlautref18.go:35
            (
             (n_Op == (8 : Int)) = true → (
             (
              (n_Op == (8 : Int)) = true → (
              -- umlautref18.go:36
              ∀ w_107 : World,
              Vc.Fr (fun k => k = b_n) w w_107 → (
              b_n < w_107.heap.size → (
              R (.int .i64 (8 : Int)) w_107))))
             ∧ (
              (n_Op == (8 : Int)) = false → (
              -- umlautref18.go:37
              (
               (n_Op == (9 : Int)) = true → (
               (
                (n_Op == (9 : Int)) = true → (
                -- umlautref18.go:38
                ∀ w_108 : World,
                Vc.Fr (fun k => k = b_n) w w_108 → (
                b_n < w_108.heap.size → (
                R (.int .i64 (9 : Int)) w_108))))
               ∧ (
                (n_Op == (9 : Int)) = false → (
                -- umlautref18.go:40
                ∀ w_109 : World,
                Vc.Fr (fun k => k = b_n) w w_109 → (
                b_n < w_109.heap.size → (
                R (.int .i64 (4 : Int)) w_109))))))
              ∧ (
               (n_Op == (9 : Int)) = false → (
               -- umlautref18.go:37
               (
                (n_Op == (10 : Int)) = true → (
                (
                 (n_Op == (10 : Int)) = true → (
                 -- umlautref18.go:38
                 ∀ w_110 : World,
                 Vc.Fr (fun k => k = b_n) w w_110 → (
                 b_n < w_110.heap.size → (
                 R (.int .i64 (9 : Int)) w_110))))
                ∧ (
                 (n_Op == (10 : Int)) = false → (
                 -- umlautref18.go:40
                 ∀ w_111 : World,
                 Vc.Fr (fun k => k = b_n) w w_111 → (
                 b_n < w_111.heap.size → (
                 R (.int .i64 (4 : Int)) w_111))))))
               ∧ (
                (n_Op == (10 : Int)) = false → (
                -- umlautref18.go:37
                (
                 (n_Op == (11 : Int)) = true → (
                 -- umlautref18.go:38
                 ∀ w_112 : World,
                 Vc.Fr (fun k => k = b_n) w w_112 → (
                 b_n < w_112.heap.size → (
                 R (.int .i64 (9 : Int)) w_112))))
                ∧ (
                 (n_Op == (11 : Int)) = false → (
                 -- umlautref18.go:40
                 ∀ w_113 : World,
                 Vc.Fr (fun k => k = b_n) w w_113 → (
                 b_n < w_113.heap.size → (
                 R (.int .i64 (4 : Int)) w_113))))))))))))
            ∧ (
             (n_Op == (8 : Int)) = false → (
             -- umlautref18.go:35
             (
              (n_Op == (17 : Int)) = true → (
              -- umlautref18.go:36
              ∀ w_114 : World,
              Vc.Fr (fun k => k = b_n) w w_114 → (
              b_n < w_114.heap.size → (
              R (.int .i64 (8 : Int)) w_114))))
             ∧ (
              (n_Op == (17 : Int)) = false → (
              -- umlautref18.go:37
              (
               (n_Op == (9 : Int)) = true → (
               (
                (n_Op == (9 : Int)) = true → (
                -- umlautref18.go:38
                ∀ w_115 : World,
                Vc.Fr (fun k => k = b_n) w w_115 → (
                b_n < w_115.heap.size → (
                R (.int .i64 (9 : Int)) w_115))))
               ∧ (
                (n_Op == (9 : Int)) = false → (
                -- umlautref18.go:40
                ∀ w_116 : World,
                Vc.Fr (fun k => k = b_n) w w_116 → (
                b_n < w_116.heap.size → (
                R (.int .i64 (4 : Int)) w_116))))))
              ∧ (
               (n_Op == (9 : Int)) = false → (
               -- umlautref18.go:37
               (
                (n_Op == (10 : Int)) = true → (
                (
                 (n_Op == (10 : Int)) = true → (
                 -- umlautref18.go:38
                 ∀ w_117 : World,
                 Vc.Fr (fun k => k = b_n) w w_117 → (
                 b_n < w_117.heap.size → (
                 R (.int .i64 (9 : Int)) w_117))))
                ∧ (
                 (n_Op == (10 : Int)) = false → (
                 -- umlautref18.go:40
                 ∀ w_118 : World,
                 Vc.Fr (fun k => k = b_n) w w_118 → (
                 b_n < w_118.heap.size → (
                 R (.int .i64 (4 : Int)) w_118))))))
               ∧ (
                (n_Op == (10 : Int)) = false → (
                -- umlautref18.go:37
                (
                 (n_Op == (11 : Int)) = true → (
                 -- umlautref18.go:38
                 ∀ w_119 : World,
                 Vc.Fr (fun k => k = b_n) w w_119 → (
                 b_n < w_119.heap.size → (
                 R (.int .i64 (9 : Int)) w_119))))
                ∧ (
                 (n_Op == (11 : Int)) = false → (
                 -- umlautref18.go:40
                 ∀ w_120 : World,
                 Vc.Fr (fun k => k = b_n) w w_120 → (
                 b_n < w_120.heap.size → (
                 R (.int .i64 (4 : Int)) w_120))))))))))))))))))
         ∧ (
          (n_Op == (12 : Int)) = false → (
          -- umlautref18.go:33
          (
           (n_Op == (13 : Int)) = true → (
           -- umlautref18.go:34
           ∀ w_121 : World,
           Vc.Fr (fun k => k = b_n) w w_121 → (
           b_n < w_121.heap.size → (
           R (.int .i64 (7 : Int)) w_121))))
          ∧ (
           (n_Op == (13 : Int)) = false → (
           -- umlautref18.go:35
           (
            (n_Op == (7 : Int)) = true → (
            (
             (n_Op == (7 : Int)) = true → (
             -- umlautref18.go:36
             ∀ w_122 : World,
             Vc.Fr (fun k => k = b_n) w w_122 → (
             b_n < w_122.heap.size → (
             R (.int .i64 (8 : Int)) w_122))))
            ∧ (
             (n_Op == (7 : Int)) = false → (
             -- umlautref18.go:37
             (
              (n_Op == (9 : Int)) = true → (
              (
               (n_Op == (9 : Int)) = true → (
               -- umlautref18.go:38
               ∀ w_123 : World,
               Vc.Fr (fun k => k = b_n) w w_123 → (
               b_n < w_123.heap.size → (
               R (.int .i64 (9 : Int)) w_123))))
              ∧ (
               (n_Op == (9 : Int)) = false → (
               -- umlautref18.go:40
               ∀ w_124 : World,
               Vc.Fr (fun k => k = b_n) w w_124 → (
               b_n < w_124.heap.size → (
               R (.int .i64 (4 : Int)) w_124))))))
             ∧ (
              (n_Op == (9 : Int)) = false → (
              -- umlautref18.go:37
              (
               (n_Op == (10 : Int)) = true → (
               (
                (n_Op == (10 : Int)) = true → (
                -- umlautref18.go:38
                ∀ w_125 : World,
                Vc.Fr (fun k => k = b_n) w w_125 → (
                b_n < w_125.heap.size → (
                R (.int .i64 (9 : Int)) w_125))))
               ∧ (
                (n_Op == (10 : Int)) = false → (
                -- umlautref18.go:40
                ∀ w_126 : World,
                Vc.Fr (fun k => k = b_n) w w_126 → (
                b_n < w_126.heap.size → (
                R (.int .i64 (4 : Int)) w_126))))))
              ∧ (
               (n_Op == (10 : Int)) = false → (
               -- umlautref18.go:37
               (
                (n_Op == (11 : Int)) = true → (
                -- umlautref18.go:38
                ∀ w_127 : World,
                Vc.Fr (fun k => k = b_n) w w_127 → (
                b_n < w_127.heap.size → (
                R (.int .i64 (9 : Int)) w_127))))
               ∧ (
                (n_Op == (11 : Int)) = false → (
                -- umlautref18.go:40
                ∀ w_128 : World,
                Vc.Fr (fun k => k = b_n) w w_128 → (
                b_n < w_128.heap.size → (
                R (.int .i64 (4 : Int)) w_128))))))))))))
           ∧ (
            (n_Op == (7 : Int)) = false → (
            -- umlautref18.go:35
            (
             (n_Op == (8 : Int)) = true → (
             (
              (n_Op == (8 : Int)) = true → (
              -- umlautref18.go:36
              ∀ w_129 : World,
              Vc.Fr (fun k => k = b_n) w w_129 → (
              b_n < w_129.heap.size → (
              R (.int .i64 (8 : Int)) w_129))))
             ∧ (
              (n_Op == (8 : Int)) = false → (
              -- umlautref18.go:37
              (
               (n_Op == (9 : Int)) = true → (
               (
                (n_Op == (9 : Int)) = true → (
                -- umlautref18.go:38
                ∀ w_130 : World,
                Vc.Fr (fun k => k = b_n) w w_130 → (
                b_n < w_130.heap.size → (
                R (.int .i64 (9 : Int)) w_130))))
               ∧ (
                (n_Op == (9 : Int)) = false → (
                -- umlautref18.go:40
                ∀ w_131 : World,
                Vc.Fr (fun k => k = b_n) w w_131 → (
                b_n < w_131.heap.size → (
                R (.int .i64 (4 : Int)) w_131))))))
              ∧ (
               (n_Op == (9 : Int)) = false → (
               -- umlautref18.go:37
               (
                (n_Op == (10 : Int)) = true → (
                (
                 (n_Op == (10 : Int)) = true → (
                 -- umlautref18.go:38
                 ∀ w_132 : World,
                 Vc.Fr (fun k => k = b_n) w w_132 → (
                 b_n < w_132.heap.size → (
                 R (.int .i64 (9 : Int)) w_132))))
                ∧ (
                 (n_Op == (10 : Int)) = false → (
                 -- umlautref18.go:40
                 ∀ w_133 : World,
                 Vc.Fr (fun k => k = b_n) w w_133 → (
                 b_n < w_133.heap.size → (
                 R (.int .i64 (4 : Int)) w_133))))))
               ∧ (
                (n_Op == (10 : Int)) = false → (
                -- umlautref18.go:37
                (
                 (n_Op == (11 : Int)) = true → (
                 -- umlautref18.go:38
                 ∀ w_134 : World,
                 Vc.Fr (fun k => k = b_n) w w_134 → (
                 b_n < w_134.heap.size → (
                 R (.int .i64 (9 : Int)) w_134))))
                ∧ (
                 (n_Op == (11 : Int)) = false → (
                 -- umlautref18.go:40
                 ∀ w_135 : World,
                 Vc.Fr (fun k => k = b_n) w w_135 → (
                 b_n < w_135.heap.size → (
                 R (.int .i64 (4 : Int)) w_135))))))))))))
            ∧ (
             (n_Op == (8 : Int)) = false → (
             -- umlautref18.go:35
             (
              (n_Op == (17 : Int)) = true → (
              -- umlautref18.go:36
              ∀ w_136 : World,
              Vc.Fr (fun k => k = b_n) w w_136 → (
              b_n < w_136.heap.size → (
              R (.int .i64 (8 : Int)) w_136))))
             ∧ (
              (n_Op == (17 : Int)) = false → (
              -- umlautref18.go:37
              (
               (n_Op == (9 : Int)) = true → (
               (
                (n_Op == (9 : Int)) = true → (
                -- umlautref18.go:38
                ∀ w_137 : World,
                Vc.Fr (fun k => k = b_n) w w_137 → (
                b_n < w_137.heap.size → (
                R (.int .i64 (9 : Int)) w_137))))
               ∧ (
                (n_Op == (9 : Int)) = false → (
                -- umlautref18.go:40
                ∀ w_138 : World,
                Vc.Fr (fun k => k = b_n) w w_138 → (
                b_n < w_138.heap.size → (
                R (.int .i64 (4 : Int)) w_138))))))
              ∧ (
               (n_Op == (9 : Int)) = false → (
               -- umlautref18.go:37
               (
                (n_Op == (10 : Int)) = true → (
                (
                 (n_Op == (10 : Int)) = true → (
                 -- umlautref18.go:38
                 ∀ w_139 : World,
                 Vc.Fr (fun k => k = b_n) w w_139 → (
                 b_n < w_139.heap.size → (
                 R (.int .i64 (9 : Int)) w_139))))
                ∧ (
                 (n_Op == (10 : Int)) = false → (
                 -- umlautref18.go:40
                 ∀ w_140 : World,
                 Vc.Fr (fun k => k = b_n) w w_140 → (
                 b_n < w_140.heap.size → (
                 R (.int .i64 (4 : Int)) w_140))))))
               ∧ (
                (n_Op == (10 : Int)) = false → (
                -- umlautref18.go:37
                (
                 (n_Op == (11 : Int)) = true → (
                 -- umlautref18.go:38
                 ∀ w_141 : World,
                 Vc.Fr (fun k => k = b_n) w w_141 → (
                 b_n < w_141.heap.size → (
                 R (.int .i64 (9 : Int)) w_141))))
                ∧ (
                 (n_Op == (11 : Int)) = false → (
                 -- umlautref18.go:40
                 ∀ w_142 : World,
                 Vc.Fr (fun k => k = b_n) w w_142 → (
                 b_n < w_142.heap.size → (
                 R (.int .i64 (4 : Int)) w_142))))))))))))))))))))))))
      ∧ (
       (n_Op == (15 : Int)) = false → (
       -- umlautref18.go:29
       (
        (n_Op == (16 : Int)) = true → (
        -- umlautref18.go:30
        ∀ w_143 : World,
        Vc.Fr (fun k => k = b_n) w w_143 → (
        b_n < w_143.heap.size → (
        R (.int .i64 (5 : Int)) w_143))))
       ∧ (
        (n_Op == (16 : Int)) = false → (
        -- umlautref18.go:31
        (
         (n_Op == (14 : Int)) = true → (
         -- umlautref18.go:32
         ∀ w_144 : World,
         Vc.Fr (fun k => k = b_n) w w_144 → (
         b_n < w_144.heap.size → (
         R (.int .i64 (6 : Int)) w_144))))
        ∧ (
         (n_Op == (14 : Int)) = false → (
         -- umlautref18.go:33
         (
          (n_Op == (12 : Int)) = true → (
          (
           (n_Op == (12 : Int)) = true → (
           -- umlautref18.go:34
           ∀ w_145 : World,
           Vc.Fr (fun k => k = b_n) w w_145 → (
           b_n < w_145.heap.size → (
           R (.int .i64 (7 : Int)) w_145))))
          ∧ (
           (n_Op == (12 : Int)) = false → (
           -- umlautref18.go:35
           (
            (n_Op == (7 : Int)) = true → (
            (
             (n_Op == (7 : Int)) = true → (
             -- umlautref18.go:36
             ∀ w_146 : World,
             Vc.Fr (fun k => k = b_n) w w_146 → (
             b_n < w_146.heap.size → (
             R (.int .i64 (8 : Int)) w_146))))
            ∧ (
             (n_Op == (7 : Int)) = false → (
             -- umlautref18.go:37
             (
              (n_Op == (9 : Int)) = true → (
              (
               (n_Op == (9 : Int)) = true → (
               -- umlautref18.go:38
               ∀ w_147 : World,
               Vc.Fr (fun k => k = b_n) w w_147 → (
               b_n < w_147.heap.size → (
               R (.int .i64 (9 : Int)) w_147))))
              ∧ (
               (n_Op == (9 : Int)) = false → (
               -- umlautref18.go:40
               ∀ w_148 : World,
               Vc.Fr (fun k => k = b_n) w w_148 → (
               b_n < w_148.heap.size → (
               R (.int .i64 (4 : Int)) w_148))))))
             ∧ (
              (n_Op == (9 : Int)) = false → (
              -- umlautref18.go:37
              (
               (n_Op == (10 : Int)) = true → (
               (
                (n_Op == (10 : Int)) = true → (
                -- umlautref18.go:38
                ∀ w_149 : World,
                Vc.Fr (fun k => k = b_n) w w_149 → (
                b_n < w_149.heap.size → (
                R (.int .i64 (9 : Int)) w_149))))
               ∧ (
                (n_Op == (10 : Int)) = false → (
                -- umlautref18.go:40
                ∀ w_150 : World,
                Vc.Fr (fun k => k = b_n) w w_150 → (
                b_n < w_150.heap.size → (
                R (.int .i64 (4 : Int)) w_150))))))
              ∧ (
               (n_Op == (10 : Int)) = false → (
               -- umlautref18.go:37
               (
                (n_Op == (11 : Int)) = true → (
                -- umlautref18.go:38
                ∀ w_151 : World,
                Vc.Fr (fun k => k = b_n) w w_151 → (
                b_n < w_151.heap.size → (
                R (.int .i64 (9 : Int)) w_151))))
               ∧ (
                (n_Op == (11 : Int)) = false → (
                -- umlautref18.go:40
                ∀ w_152 : World,
                Vc.Fr (fun k => k = b_n) w w_152 → (
                b_n < w_152.heap.size → (
                R (.int .i64 (4 : Int)) w_152))))))))))))
           ∧ (
            (n_Op == (7 : Int)) = false → (
            -- umlautref18.go:35
            (
             (n_Op == (8 : Int)) = true → (
             (
              (n_Op == (8 : Int)) = true → (
              -- umlautref18.go:36
              ∀ w_153 : World,
              Vc.Fr (fun k => k = b_n) w w_153 → (
              b_n < w_153.heap.size → (
              R (.int .i64 (8 : Int)) w_153))))
             ∧ (
              (n_Op == (8 : Int)) = false → (
              -- umlautref18.go:37
              (
               (n_Op == (9 : Int)) = true → (
               (
                (n_Op == (9 : Int)) = true → (
                -- umlautref18.go:38
                ∀ w_154 : World,
                Vc.Fr (fun k => k = b_n) w w_154 → (
                b_n < w_154.heap.size → (
                R (.int .i64 (9 : Int)) w_154))))
               ∧ (
                (n_Op == (9 : Int)) = false → (
                -- umlautref18.go:40
                ∀ w_155 : World,
                Vc.Fr (fun k => k = b_n) w w_155 → (
                b_n < w_155.heap.size → (
                R (.int .i64 (4 : Int)) w_155))))))
              ∧ (
               (n_Op == (9 : Int)) = false → (
               -- umlautref18.go:37
               (
                (n_Op == (10 : Int)) = true → (
                (
                 (n_Op == (10 : Int)) = true → (
                 -- umlautref18.go:38
                 ∀ w_156 : World,
                 Vc.Fr (fun k => k = b_n) w w_156 → (
                 b_n < w_156.heap.size → (
                 R (.int .i64 (9 : Int)) w_156))))
                ∧ (
                 (n_Op == (10 : Int)) = false → (
                 -- umlautref18.go:40
                 ∀ w_157 : World,
                 Vc.Fr (fun k => k = b_n) w w_157 → (
                 b_n < w_157.heap.size → (
                 R (.int .i64 (4 : Int)) w_157))))))
               ∧ (
                (n_Op == (10 : Int)) = false → (
                -- umlautref18.go:37
                (
                 (n_Op == (11 : Int)) = true → (
                 -- umlautref18.go:38
                 ∀ w_158 : World,
                 Vc.Fr (fun k => k = b_n) w w_158 → (
                 b_n < w_158.heap.size → (
                 R (.int .i64 (9 : Int)) w_158))))
                ∧ (
                 (n_Op == (11 : Int)) = false → (
                 -- umlautref18.go:40
                 ∀ w_159 : World,
                 Vc.Fr (fun k => k = b_n) w w_159 → (
                 b_n < w_159.heap.size → (
                 R (.int .i64 (4 : Int)) w_159))))))))))))
            ∧ (
             (n_Op == (8 : Int)) = false → (
             -- umlautref18.go:35
             (
              (n_Op == (17 : Int)) = true → (
              -- umlautref18.go:36
              ∀ w_160 : World,
              Vc.Fr (fun k => k = b_n) w w_160 → (
              b_n < w_160.heap.size → (
              R (.int .i64 (8 : Int)) w_160))))
             ∧ (
              (n_Op == (17 : Int)) = false → (
              -- umlautref18.go:37
              (
               (n_Op == (9 : Int)) = true → (
               (
                (n_Op == (9 : Int)) = true → (
                -- umlautref18.go:38
                ∀ w_161 : World,
                Vc.Fr (fun k => k = b_n) w w_161 → (
                b_n < w_161.heap.size → (
                R (.int .i64 (9 : Int)) w_161))))
               ∧ (
                (n_Op == (9 : Int)) = false → (
                -- umlautref18.go:40
                ∀ w_162 : World,
                Vc.Fr (fun k => k = b_n) w w_162 → (
                b_n < w_162.heap.size → (
                R (.int .i64 (4 : Int)) w_162))))))
              ∧ (
               (n_Op == (9 : Int)) = false → (
               -- umlautref18.go:37
               (
                (n_Op == (10 : Int)) = true → (
                (
                 (n_Op == (10 : Int)) = true → (
                 -- umlautref18.go:38
                 ∀ w_163 : World,
                 Vc.Fr (fun k => k = b_n) w w_163 → (
                 b_n < w_163.heap.size → (
                 R (.int .i64 (9 : Int)) w_163))))
                ∧ (
                 (n_Op == (10 : Int)) = false → (
                 -- umlautref18.go:40
                 ∀ w_164 : World,
                 Vc.Fr (fun k => k = b_n) w w_164 → (
                 b_n < w_164.heap.size → (
                 R (.int .i64 (4 : Int)) w_164))))))
               ∧ (
                (n_Op == (10 : Int)) = false → (
                -- umlautref18.go:37
                (
                 (n_Op == (11 : Int)) = true → (
                 -- umlautref18.go:38
                 ∀ w_165 : World,
                 Vc.Fr (fun k => k = b_n) w w_165 → (
                 b_n < w_165.heap.size → (
                 R (.int .i64 (9 : Int)) w_165))))
                ∧ (
                 (n_Op == (11 : Int)) = false → (
                 -- umlautref18.go:40
                 ∀ w_166 : World,
                 Vc.Fr (fun k => k = b_n) w w_166 → (
                 b_n < w_166.heap.size → (
                 R (.int .i64 (4 : Int)) w_166))))))))))))))))))
         ∧ (
          (n_Op == (12 : Int)) = false → (
          -- umlautref18.go:33
          (
           (n_Op == (13 : Int)) = true → (
           -- umlautref18.go:34
           ∀ w_167 : World,
           Vc.Fr (fun k => k = b_n) w w_167 → (
           b_n < w_167.heap.size → (
           R (.int .i64 (7 : Int)) w_167))))
          ∧ (
           (n_Op == (13 : Int)) = false → (
           -- umlautref18.go:35
           (
            (n_Op == (7 : Int)) = true → (
            (
             (n_Op == (7 : Int)) = true → (
             -- umlautref18.go:36
             ∀ w_168 : World,
             Vc.Fr (fun k => k = b_n) w w_168 → (
             b_n < w_168.heap.size → (
             R (.int .i64 (8 : Int)) w_168))))
            ∧ (
             (n_Op == (7 : Int)) = false → (
             -- umlautref18.go:37
             (
              (n_Op == (9 : Int)) = true → (
              (
               (n_Op == (9 : Int)) = true → (
               -- umlautref18.go:38
               ∀ w_169 : World,
               Vc.Fr (fun k => k = b_n) w w_169 → (
               b_n < w_169.heap.size → (
               R (.int .i64 (9 : Int)) w_169))))
              ∧ (
               (n_Op == (9 : Int)) = false → (
               -- umlautref18.go:40
               ∀ w_170 : World,
               Vc.Fr (fun k => k = b_n) w w_170 → (
               b_n < w_170.heap.size → (
               R (.int .i64 (4 : Int)) w_170))))))
             ∧ (
              (n_Op == (9 : Int)) = false → (
              -- umlautref18.go:37
              (
               (n_Op == (10 : Int)) = true → (
               (
                (n_Op == (10 : Int)) = true → (
                -- umlautref18.go:38
                ∀ w_171 : World,
                Vc.Fr (fun k => k = b_n) w w_171 → (
                b_n < w_171.heap.size → (
                R (.int .i64 (9 : Int)) w_171))))
               ∧ (
                (n_Op == (10 : Int)) = false → (
                -- umlautref18.go:40
                ∀ w_172 : World,
                Vc.Fr (fun k => k = b_n) w w_172 → (
                b_n < w_172.heap.size → (
                R (.int .i64 (4 : Int)) w_172))))))
              ∧ (
               (n_Op == (10 : Int)) = false → (
               -- umlautref18.go:37
               (
                (n_Op == (11 : Int)) = true → (
                -- umlautref18.go:38
                ∀ w_173 : World,
                Vc.Fr (fun k => k = b_n) w w_173 → (
                b_n < w_173.heap.size → (
                R (.int .i64 (9 : Int)) w_173))))
               ∧ (
                (n_Op == (11 : Int)) = false → (
                -- umlautref18.go:40
                ∀ w_174 : World,
                Vc.Fr (fun k => k = b_n) w w_174 → (
                b_n < w_174.heap.size → (
                R (.int .i64 (4 : Int)) w_174))))))))))))
           ∧ (
            (n_Op == (7 : Int)) = false → (
            -- umlautref18.go:35
            (
             (n_Op == (8 : Int)) = true → (
             (
              (n_Op == (8 : Int)) = true → (
              -- umlautref18.go:36
              ∀ w_175 : World,
              Vc.Fr (fun k => k = b_n) w w_175 → (
              b_n < w_175.heap.size → (
              R (.int .i64 (8 : Int)) w_175))))
             ∧ (
              (n_Op == (8 : Int)) = false → (
              -- umlautref18.go:37
              (
               (n_Op == (9 : Int)) = true → (
               (
                (n_Op == (9 : Int)) = true → (
                -- umlautref18.go:38
                ∀ w_176 : World,
                Vc.Fr (fun k => k = b_n) w w_176 → (
                b_n < w_176.heap.size → (
                R (.int .i64 (9 : Int)) w_176))))
               ∧ (
                (n_Op == (9 : Int)) = false → (
                -- umlautref18.go:40
                ∀ w_177 : World,
                Vc.Fr (fun k => k = b_n) w w_177 → (
                b_n < w_177.heap.size → (
                R (.int .i64 (4 : Int)) w_177))))))
              ∧ (
               (n_Op == (9 : Int)) = false → (
               -- umlautref18.go:37
               (
                (n_Op == (10 : Int)) = true → (
                (
                 (n_Op == (10 : Int)) = true → (
                 -- umlautref18.go:38
                 ∀ w_178 : World,
                 Vc.Fr (fun k => k = b_n) w w_178 → (
                 b_n < w_178.heap.size → (
                 R (.int .i64 (9 : Int)) w_178))))
                ∧ (
                 (n_Op == (10 : Int)) = false → (
                 -- umlautref18.go:40
                 ∀ w_179 : World,
                 Vc.Fr (fun k => k = b_n) w w_179 → (
                 b_n < w_179.heap.size → (
                 R (.int .i64 (4 : Int)) w_179))))))
               ∧ (
                (n_Op == (10 : Int)) = false → (
                -- umlautref18.go:37
                (
                 (n_Op == (11 : Int)) = true → (
                 -- umlautref18.go:38
                 ∀ w_180 : World,
                 Vc.Fr (fun k => k = b_n) w w_180 → (
                 b_n < w_180.heap.size → (
                 R (.int .i64 (9 : Int)) w_180))))
                ∧ (
                 (n_Op == (11 : Int)) = false → (
                 -- umlautref18.go:40
                 ∀ w_181 : World,
                 Vc.Fr (fun k => k = b_n) w w_181 → (
                 b_n < w_181.heap.size → (
                 R (.int .i64 (4 : Int)) w_181))))))))))))
            ∧ (
             (n_Op == (8 : Int)) = false → (
             -- umlautref18.go:35
             (
              (n_Op == (17 : Int)) = true → (
              -- umlautref18.go:36
              ∀ w_182 : World,
              Vc.Fr (fun k => k = b_n) w w_182 → (
              b_n < w_182.heap.size → (
              R (.int .i64 (8 : Int)) w_182))))
             ∧ (
              (n_Op == (17 : Int)) = false → (
              -- umlautref18.go:37
              (
               (n_Op == (9 : Int)) = true → (
               (
                (n_Op == (9 : Int)) = true → (
                -- umlautref18.go:38
                ∀ w_183 : World,
                Vc.Fr (fun k => k = b_n) w w_183 → (
                b_n < w_183.heap.size → (
                R (.int .i64 (9 : Int)) w_183))))
               ∧ (
                (n_Op == (9 : Int)) = false → (
                -- umlautref18.go:40
                ∀ w_184 : World,
                Vc.Fr (fun k => k = b_n) w w_184 → (
                b_n < w_184.heap.size → (
                R (.int .i64 (4 : Int)) w_184))))))
              ∧ (
               (n_Op == (9 : Int)) = false → (
               -- umlautref18.go:37
               (
                (n_Op == (10 : Int)) = true → (
                (
                 (n_Op == (10 : Int)) = true → (
                 -- umlautref18.go:38
                 ∀ w_185 : World,
                 Vc.Fr (fun k => k = b_n) w w_185 → (
                 b_n < w_185.heap.size → (
                 R (.int .i64 (9 : Int)) w_185))))
                ∧ (
                 (n_Op == (10 : Int)) = false → (
                 -- umlautref18.go:40
                 ∀ w_186 : World,
                 Vc.Fr (fun k => k = b_n) w w_186 → (
                 b_n < w_186.heap.size → (
                 R (.int .i64 (4 : Int)) w_186))))))
               ∧ (
                (n_Op == (10 : Int)) = false → (
                -- umlautref18.go:37
                (
                 (n_Op == (11 : Int)) = true → (
                 -- umlautref18.go:38
                 ∀ w_187 : World,
                 Vc.Fr (fun k => k = b_n) w w_187 → (
                 b_n < w_187.heap.size → (
                 R (.int .i64 (9 : Int)) w_187))))
                ∧ (
                 (n_Op == (11 : Int)) = false → (
                 -- umlautref18.go:40
                 ∀ w_188 : World,
                 Vc.Fr (fun k => k = b_n) w w_188 → (
                 b_n < w_188.heap.size → (
                 R (.int .i64 (4 : Int)) w_188))))))))))))))))))))))))))))))))
  ∧ (
   (n_Kind == (6 : Int)) = false → (
   -- umlautref18.go:41
   (
    (n_Kind == (5 : Int)) = true → (
    -- umlautref18.go:42
    (
     (n_Op == (21 : Int)) = true → (
     -- umlautref18.go:43
     ∀ w_189 : World,
     Vc.Fr (fun k => k = b_n) w w_189 → (
     b_n < w_189.heap.size → (
     R (.int .i64 (3 : Int)) w_189))))
    ∧ (
     (n_Op == (21 : Int)) = false → (
     -- umlautref18.go:45
     ∀ w_190 : World,
     Vc.Fr (fun k => k = b_n) w w_190 → (
     b_n < w_190.heap.size → (
     R (.int .i64 (10 : Int)) w_190))))))
   ∧ (
    (n_Kind == (5 : Int)) = false → (
    -- umlautref18.go:46
    (
     (n_Kind == (7 : Int)) = true → (
     (
      (n_Kind == (7 : Int)) = true → (
      -- umlautref18.go:47
      ∀ w_191 : World,
      Vc.Fr (fun k => k = b_n) w w_191 → (
      b_n < w_191.heap.size → (
      R (.int .i64 (4 : Int)) w_191))))
     ∧ (
      (n_Kind == (7 : Int)) = false → (
      -- umlautref18.go:48
      (
       (n_Kind == (11 : Int)) = true → (
       -- umlautref18.go:49
       ∀ w_192 : World,
       Vc.Fr (fun k => k = b_n) w w_192 → (
       b_n < w_192.heap.size → (
       R (.int .i64 (11 : Int)) w_192))))
      ∧ (
       (n_Kind == (11 : Int)) = false → (
       -- umlautref18.go:51
       ∀ w_193 : World,
       Vc.Fr (fun k => k = b_n) w w_193 → (
       b_n < w_193.heap.size → (
       R (.int .i64 (12 : Int)) w_193))))))))
    ∧ (
     (n_Kind == (7 : Int)) = false → (
     -- umlautref18.go:46
     (
      (n_Kind == (8 : Int)) = true → (
      (
       (n_Kind == (8 : Int)) = true → (
       -- umlautref18.go:47
       ∀ w_194 : World,
       Vc.Fr (fun k => k = b_n) w w_194 → (
       b_n < w_194.heap.size → (
       R (.int .i64 (4 : Int)) w_194))))
      ∧ (
       (n_Kind == (8 : Int)) = false → (
       -- umlautref18.go:48
       (
        (n_Kind == (11 : Int)) = true → (
        -- umlautref18.go:49
        ∀ w_195 : World,
        Vc.Fr (fun k => k = b_n) w w_195 → (
        b_n < w_195.heap.size → (
        R (.int .i64 (11 : Int)) w_195))))
       ∧ (
        (n_Kind == (11 : Int)) = false → (
        -- umlautref18.go:51
        ∀ w_196 : World,
        Vc.Fr (fun k => k = b_n) w w_196 → (
        b_n < w_196.heap.size → (
        R (.int .i64 (12 : Int)) w_196))))))))
     ∧ (
      (n_Kind == (8 : Int)) = false → (
      -- umlautref18.go:46
      (
       (n_Kind == (9 : Int)) = true → (
       (
        (n_Kind == (9 : Int)) = true → (
        -- umlautref18.go:47
        ∀ w_197 : World,
        Vc.Fr (fun k => k = b_n) w w_197 → (
        b_n < w_197.heap.size → (
        R (.int .i64 (4 : Int)) w_197))))
       ∧ (
        (n_Kind == (9 : Int)) = false → (
        -- umlautref18.go:48
        (
         (n_Kind == (11 : Int)) = true → (
         -- umlautref18.go:49
         ∀ w_198 : World,
         Vc.Fr (fun k => k = b_n) w w_198 → (
         b_n < w_198.heap.size → (
         R (.int .i64 (11 : Int)) w_198))))
        ∧ (
         (n_Kind == (11 : Int)) = false → (
         -- umlautref18.go:51
         ∀ w_199 : World,
         Vc.Fr (fun k => k = b_n) w w_199 → (
         b_n < w_199.heap.size → (
         R (.int .i64 (12 : Int)) w_199))))))))
      ∧ (
       (n_Kind == (9 : Int)) = false → (
       -- umlautref18.go:46
       (
        (n_Kind == (10 : Int)) = true → (
        -- umlautref18.go:47
        ∀ w_200 : World,
        Vc.Fr (fun k => k = b_n) w w_200 → (
        b_n < w_200.heap.size → (
        R (.int .i64 (4 : Int)) w_200))))
       ∧ (
        (n_Kind == (10 : Int)) = false → (
        -- umlautref18.go:48
        (
         (n_Kind == (11 : Int)) = true → (
         -- umlautref18.go:49
         ∀ w_201 : World,
         Vc.Fr (fun k => k = b_n) w w_201 → (
         b_n < w_201.heap.size → (
         R (.int .i64 (11 : Int)) w_201))))
        ∧ (
         (n_Kind == (11 : Int)) = false → (
         -- umlautref18.go:51
         ∀ w_202 : World,
         Vc.Fr (fun k => k = b_n) w w_202 → (
         b_n < w_202.heap.size → (
         R (.int .i64 (12 : Int)) w_202)))))))))))))))))
def Sh.ref18_Level_h : Vc.H := (.seq (.reg (.o 0 1 (.p 1 0 (.done 0)))) (.seq (.seq (.reg (.p 0 0 (.p 1 0 (.done 0)))) (.block (.seq (.reg (.p 0 0 (.p 1 0 (.done 0)))) (.cond false (.seq (.seq (.reg (.p 0 0 (.p 1 0 (.done 0)))) (.block (.seq (.seq (.reg (.p 0 0 (.p 1 0 (.done 0)))) (.cond false (.nil 0) (.reg (.p 0 0 (.p 1 0 (.done 0)))))) (.cond false (.seq (.reg (.p 0 0 (.done 0))) (.nil 0)) (.seq (.reg (.p 0 0 (.p 1 0 (.done 0)))) (.cond false (.seq (.reg (.p 0 0 (.done 0))) (.nil 0)) (.seq (.seq (.reg (.p 0 0 (.p 1 0 (.done 0)))) (.cond false (.nil 0) (.reg (.p 0 0 (.p 1 0 (.done 0)))))) (.cond false (.seq (.reg (.p 0 0 (.done 0))) (.nil 0)) (.seq (.reg (.p 0 0 (.p 1 0 (.done 0)))) (.cond false (.seq (.reg (.p 0 0 (.done 0))) (.nil 0)) (.seq (.seq (.reg (.p 0 0 (.p 1 0 (.done 0)))) (.cond false (.nil 0) (.reg (.p 0 0 (.p 1 0 (.done 0)))))) (.cond false (.seq (.reg (.p 0 0 (.done 0))) (.nil 0)) (.seq (.seq (.reg (.p 0 0 (.p 1 0 (.done 0)))) (.cond false (.nil 0) (.seq (.reg (.p 0 0 (.p 1 0 (.done 0)))) (.cond false (.nil 0) (.reg (.p 0 0 (.p 1 0 (.done 0)))))))) (.cond false (.seq (.reg (.p 0 0 (.done 0))) (.nil 0)) (.seq (.seq (.reg (.p 0 0 (.p 1 0 (.done 0)))) (.cond false (.nil 0) (.seq (.reg (.p 0 0 (.p 1 0 (.done 0)))) (.cond false (.nil 0) (.reg (.p 0 0 (.p 1 0 (.done 0)))))))) (.cond false (.seq (.reg (.p 0 0 (.done 0))) (.nil 0)) (.nil 0))))))))))))))))) (.seq (.reg (.p 0 0 (.done 0))) (.nil 0))) (.seq (.reg (.p 0 0 (.p 1 0 (.done 0)))) (.cond false (.seq (.seq (.reg (.p 0 0 (.p 1 0 (.p 2 0 (.done 0))))) (.cond false (.seq (.reg (.p 0 0 (.done 0))) (.nil 0)) (.nil 0))) (.seq (.reg (.p 0 0 (.done 0))) (.nil 0))) (.seq (.seq (.reg (.p 0 0 (.p 1 0 (.done 0)))) (.cond false (.nil 0) (.seq (.reg (.p 0 0 (.p 1 0 (.done 0)))) (.cond false (.nil 0) (.seq (.reg (.p 0 0 (.p 1 0 (.done 0)))) (.cond false (.nil 0) (.reg (.p 0 0 (.p 1 0 (.done 0)))))))))) (.cond false (.seq (.reg (.p 0 0 (.done 0))) (.nil 0)) (.seq (.reg (.p 0 0 (.p 1 0 (.done 0)))) (.cond false (.seq (.reg (.p 0 0 (.done 0))) (.nil 0)) (.nil 0))))))))))) (.seq (.reg (.p 0 0 (.done 0))) (.nil 0))))
theorem Sh.ref18_Level_eq (n_Kind : Int) (n_Op : Int) (n_S : ByteArray) (n_T : ByteArray) (n_N : Int) (n_L : Option Addr) (n_L_len n_L_cap : Nat) (w : World) (R : Value → World → Prop) : Sh.ref18_Level n_Kind n_Op n_S n_T n_N n_L n_L_len n_L_cap w R = Vc.vcFn Try.prog tab okF Try.f21 Sh.ref18_Level_h [.agg #[.int .i64 n_Kind, .int .i64 n_Op, .string n_S, .string n_T, .int .i64 n_N, .slice n_L n_L_len n_L_cap]] w R := by kernel_rfl
theorem Sh.ref18_Level_calls (n_Kind : Int) (n_Op : Int) (n_S : ByteArray) (n_T : ByteArray) (n_N : Int) (n_L : Option Addr) (n_L_len n_L_cap : Nat) {w : World} {R : Value → World → Prop} (h : Sh.ref18_Level n_Kind n_Op n_S n_T n_N n_L n_L_len n_L_cap w R) : Calls Try.prog 21 #[.agg #[.int .i64 n_Kind, .int .i64 n_Op, .string n_S, .string n_T, .int .i64 n_N, .slice n_L n_L_len n_L_cap]] w fun e w' => ∃ v, e = .returned v ∧ R v w' :=
  Vc.fn_calls mixed tabOk okF_ok Try.func21 (by kernel_rfl) (by kernel_rfl) (by rw [← Sh.ref18_Level_eq n_Kind n_Op n_S n_T n_N n_L n_L_len n_L_cap]; exact h)

def Sh.ref18_at (n_Kind : Int) (n_Op : Int) (n_S : ByteArray) (n_T : ByteArray) (n_N : Int) (n_L : Option Addr) (n_L_len n_L_cap : Nat) (level : Int) (w : World) (R : Value → World → Prop) : Prop :=
  -- umlautref18.go:55
  ∀ b_n : Nat,
  w.heap.size ≤ b_n → (
  -- umlautref18.go:56
  ∀ w_1 : World,
  Vc.Fr (fun k => k = b_n) w w_1 → (
  b_n < w_1.heap.size → (
  Calls Try.prog 21 #[.agg #[.int .i64 n_Kind, .int .i64 n_Op, .string n_S, .string n_T, .int .i64 n_N, .slice n_L n_L_len n_L_cap]] w_1 fun (e : Ending) (w_2 : World) => (
  ∃ r_Level : Int,
  e = .returned (.int .i64 r_Level) ∧ (
  (b_n < w_1.heap.size → w_2.heap[b_n]? = w_1.heap[b_n]?) ∧ (
  (
   (decide (r_Level < level)) = true → (
   -- umlautref18.go:57
   Calls Try.prog 16 #[.agg #[.int .i64 n_Kind, .int .i64 n_Op, .string n_S, .string n_T, .int .i64 n_N, .slice n_L n_L_len n_L_cap]] w_2 fun (e : Ending) (w_3 : World) => (
   ∃ r_words : ByteArray,
   e = .returned (.string r_words) ∧ (
   (b_n < w_2.heap.size → w_3.heap[b_n]? = w_2.heap[b_n]?) ∧ (
   (((⟨#[40, 32]⟩ : ByteArray).size + r_words.size : Nat) : Int) ≤ 9223372036854775807 ∧ (
   ((((⟨#[40, 32]⟩ : ByteArray) ++ r_words).size + (⟨#[32, 41]⟩ : ByteArray).size : Nat) : Int) ≤ 9223372036854775807 ∧ (
   R (.string (((⟨#[40, 32]⟩ : ByteArray) ++ r_words) ++ (⟨#[32, 41]⟩ : ByteArray))) w_3)))))))
  ∧ (
   (decide (r_Level < level)) = false → (
   -- umlautref18.go:59
   Calls Try.prog 16 #[.agg #[.int .i64 n_Kind, .int .i64 n_Op, .string n_S, .string n_T, .int .i64 n_N, .slice n_L n_L_len n_L_cap]] w_2 fun (e : Ending) (w_4 : World) => (
   ∃ r_words_1 : ByteArray,
   e = .returned (.string r_words_1) ∧ (
   (b_n < w_2.heap.size → w_4.heap[b_n]? = w_2.heap[b_n]?) ∧ (
   R (.string r_words_1) w_4)))))))))))
def Sh.ref18_at_h : Vc.H := (.seq (.reg (.o 0 1 (.p 1 0 (.done 0)))) (.seq (.seq (.reg (.p 0 0 (.o 1 0 (.p 2 0 (.p 3 0 (.done 0)))))) (.cond false (.seq (.reg (.p 0 0 (.o 1 0 (.p 2 0 (.p 3 0 (.p 4 0 (.done 0))))))) (.nil 0)) (.nil 0))) (.seq (.reg (.p 0 0 (.o 1 0 (.p 2 0 (.done 0))))) (.nil 0))))
theorem Sh.ref18_at_eq (n_Kind : Int) (n_Op : Int) (n_S : ByteArray) (n_T : ByteArray) (n_N : Int) (n_L : Option Addr) (n_L_len n_L_cap : Nat) (level : Int) (w : World) (R : Value → World → Prop) : Sh.ref18_at n_Kind n_Op n_S n_T n_N n_L n_L_len n_L_cap level w R = Vc.vcFn Try.prog tab okF Try.f22 Sh.ref18_at_h [.agg #[.int .i64 n_Kind, .int .i64 n_Op, .string n_S, .string n_T, .int .i64 n_N, .slice n_L n_L_len n_L_cap], .int .i64 level] w R := by kernel_rfl
theorem Sh.ref18_at_calls (n_Kind : Int) (n_Op : Int) (n_S : ByteArray) (n_T : ByteArray) (n_N : Int) (n_L : Option Addr) (n_L_len n_L_cap : Nat) (level : Int) {w : World} {R : Value → World → Prop} (h : Sh.ref18_at n_Kind n_Op n_S n_T n_N n_L n_L_len n_L_cap level w R) : Calls Try.prog 22 #[.agg #[.int .i64 n_Kind, .int .i64 n_Op, .string n_S, .string n_T, .int .i64 n_N, .slice n_L n_L_len n_L_cap], .int .i64 level] w fun e w' => ∃ v, e = .returned v ∧ R v w' :=
  Vc.fn_calls mixed tabOk okF_ok Try.func22 (by kernel_rfl) (by kernel_rfl) (by rw [← Sh.ref18_at_eq n_Kind n_Op n_S n_T n_N n_L n_L_len n_L_cap level]; exact h)

def Sh.ref18_opName (op : Int) (w : World) (R : Value → World → Prop) : Prop :=
  -- umlautref18.go:12
  -- umlautref18.go:13
  ∀ w_1 : World,
  w_1 = w.alloc (.cells #[.string (⟨#[]⟩ : ByteArray), .string (⟨#[61]⟩ : ByteArray), .string (⟨#[60, 62]⟩ : ByteArray), .string (⟨#[60]⟩ : ByteArray), .string (⟨#[60, 61]⟩ : ByteArray), .string (⟨#[62]⟩ : ByteArray), .string (⟨#[62, 61]⟩ : ByteArray), .string (⟨#[43]⟩ : ByteArray), .string (⟨#[45]⟩ : ByteArray), .string (⟨#[42]⟩ : ByteArray), .string (⟨#[47]⟩ : ByteArray), .string (⟨#[37]⟩ : ByteArray), .string (⟨#[60, 60]⟩ : ByteArray), .string (⟨#[62, 62]⟩ : ByteArray), .string (⟨#[38]⟩ : ByteArray), .string (⟨#[124]⟩ : ByteArray), .string (⟨#[94]⟩ : ByteArray), .string (⟨#[124, 124]⟩ : ByteArray), .string (⟨#[65, 78, 68]⟩ : ByteArray), .string (⟨#[79, 82]⟩ : ByteArray), .string (⟨#[]⟩ : ByteArray), .string (⟨#[]⟩ : ByteArray), .string (⟨#[88, 79, 82]⟩ : ByteArray)] 9) → (
  -- umlautref18.go:14
  ((!(decide (op < (0 : Int)))) = true → (!(decide (op < (0 : Int)))) = true) ∧ (
  ((!(decide (op < (0 : Int)))) = true → (!(decide (op < (0 : Int)))) = true) ∧ (
  ((!(decide (op < (0 : Int)))) = true → (!(decide (op < (0 : Int)))) = true) ∧ (
  ((decide (op < (0 : Int))) = false → (!(decide (op < (0 : Int)))) = true) ∧ (
  (
   ((decide (op < (0 : Int))) || (decide (op ≥ ((23 : Nat) : Int)))) = true → (
   -- umlautref18.go:15
   R (.string (⟨#[]⟩ : ByteArray)) w_1))
  ∧ (
   ((decide (op < (0 : Int))) || (decide (op ≥ ((23 : Nat) : Int)))) = false → (
   -- umlautref18.go:17
   (0 ≤ op ∧ op < ((23 : Nat) : Int)) ∧ (
   ∃ t16 : ByteArray,
   w_1.cell? ((⟨w.heap.size, 0, none⟩ : Addr).add (op.toNat * 1)) = some (.string t16) ∧ (
   R (.string t16) w_1)))))))))
def Sh.ref18_opName_h : Vc.H := (.seq (.reg (.p 0 0 (.done 0))) (.seq (.reg (.o 0 0 (.p 1 0 (.done 0)))) (.seq (.seq (.reg (.p 0 0 (.p 1 0 (.p 2 0 (.p 3 0 (.p 4 0 (.p 5 0 (.p 6 0 (.p 7 0 (.done 0)))))))))) (.cond false (.seq (.reg (.p 0 0 (.done 0))) (.nil 0)) (.nil 0))) (.seq (.reg (.p 0 0 (.p 1 0 (.p 2 0 (.o 3 0 (.p 4 0 (.done 0))))))) (.nil 0)))))
theorem Sh.ref18_opName_eq (op : Int) (w : World) (R : Value → World → Prop) : Sh.ref18_opName op w R = Vc.vcFn Try.prog tab okF Try.f23 Sh.ref18_opName_h [.int .i64 op] w R := by kernel_rfl
theorem Sh.ref18_opName_calls (op : Int) {w : World} {R : Value → World → Prop} (h : Sh.ref18_opName op w R) : Calls Try.prog 23 #[.int .i64 op] w fun e w' => ∃ v, e = .returned v ∧ R v w' :=
  Vc.fn_calls mixed tabOk okF_ok Try.func23 (by kernel_rfl) (by kernel_rfl) (by rw [← Sh.ref18_opName_eq op]; exact h)

def Sh.ref18_not (n_Kind : Int) (n_Op : Int) (n_S : ByteArray) (n_T : ByteArray) (n_N : Int) (n_L : Option Addr) (n_L_len n_L_cap : Nat) (w : World) (R : Value → World → Prop) : Prop :=
  -- umlautref18.go:63
  ∀ b_n : Nat,
  w.heap.size ≤ b_n → (
  -- umlautref18.go:64
  (
   (n_N == (1 : Int)) = true → (
   -- umlautref18.go:65
   ∀ w_1 : World,
   Vc.Fr (fun k => k = b_n) w w_1 → (
   b_n < w_1.heap.size → (
   R (.string (⟨#[78, 79, 84, 32]⟩ : ByteArray)) w_1))))
  ∧ (
   (n_N == (1 : Int)) = false → (
   -- umlautref18.go:67
   ∀ w_2 : World,
   Vc.Fr (fun k => k = b_n) w w_2 → (
   b_n < w_2.heap.size → (
   R (.string (⟨#[]⟩ : ByteArray)) w_2)))))
def Sh.ref18_not_h : Vc.H := (.seq (.reg (.o 0 1 (.p 1 0 (.done 0)))) (.seq (.seq (.reg (.p 0 0 (.p 1 0 (.p 2 0 (.done 0))))) (.cond false (.seq (.reg (.p 0 0 (.done 0))) (.nil 0)) (.nil 0))) (.seq (.reg (.p 0 0 (.done 0))) (.nil 0))))
theorem Sh.ref18_not_eq (n_Kind : Int) (n_Op : Int) (n_S : ByteArray) (n_T : ByteArray) (n_N : Int) (n_L : Option Addr) (n_L_len n_L_cap : Nat) (w : World) (R : Value → World → Prop) : Sh.ref18_not n_Kind n_Op n_S n_T n_N n_L n_L_len n_L_cap w R = Vc.vcFn Try.prog tab okF Try.f24 Sh.ref18_not_h [.agg #[.int .i64 n_Kind, .int .i64 n_Op, .string n_S, .string n_T, .int .i64 n_N, .slice n_L n_L_len n_L_cap]] w R := by kernel_rfl
theorem Sh.ref18_not_calls (n_Kind : Int) (n_Op : Int) (n_S : ByteArray) (n_T : ByteArray) (n_N : Int) (n_L : Option Addr) (n_L_len n_L_cap : Nat) {w : World} {R : Value → World → Prop} (h : Sh.ref18_not n_Kind n_Op n_S n_T n_N n_L n_L_len n_L_cap w R) : Calls Try.prog 24 #[.agg #[.int .i64 n_Kind, .int .i64 n_Op, .string n_S, .string n_T, .int .i64 n_N, .slice n_L n_L_len n_L_cap]] w fun e w' => ∃ v, e = .returned v ∧ R v w' :=
  Vc.fn_calls mixed tabOk okF_ok Try.func24 (by kernel_rfl) (by kernel_rfl) (by rw [← Sh.ref18_not_eq n_Kind n_Op n_S n_T n_N n_L n_L_len n_L_cap]; exact h)

def Sh.ref18_commas (l : Option Addr) (l_len l_cap : Nat) (w : World) (R : Value → World → Prop) : Prop :=
  -- umlautref18.go:71
  -- umlautref18.go:72
  -- umlautref18.go:73
  -- LOOP 9: s, i
  ∃ (I : ByteArray → Int → World → Prop) (μ : ByteArray → Int → World → Nat),
  (
   I (⟨#[]⟩ : ByteArray) (0 : Int) w)
  ∧ (
   ∀ (s : ByteArray) (i : Int),
   ∀ w_1 : World,
   I s i w_1 → (
   -- umlautref18.go:73
   (
    (decide (i < ((l_len : Nat) : Int))) = true → (
    -- umlautref18.go:74
    (
     (decide (i > (0 : Int))) = true → (
     -- umlautref18.go:75
     ((s.size + (⟨#[32, 44, 32]⟩ : ByteArray).size : Nat) : Int) ≤ 9223372036854775807 ∧ (
     -- umlautref18.go:77
     ∃ p : Addr,
     l = some p ∧ (
     (0 ≤ i ∧ i < ((l_len : Nat) : Int)) ∧ (
     ∃ t19_Kind : Int,
     w_1.cell? (p.add (i.toNat * 6)) = some (.int .i64 t19_Kind) ∧ (
     ∃ t19_Op : Int,
     w_1.cell? ((p.add (i.toNat * 6)).add 1) = some (.int .i64 t19_Op) ∧ (
     ∃ t19_S : ByteArray,
     w_1.cell? ((p.add (i.toNat * 6)).add 2) = some (.string t19_S) ∧ (
     ∃ t19_T : ByteArray,
     w_1.cell? ((p.add (i.toNat * 6)).add 3) = some (.string t19_T) ∧ (
     ∃ t19_N : Int,
     w_1.cell? ((p.add (i.toNat * 6)).add 4) = some (.int .i64 t19_N) ∧ (
     ∃ (t19_L : Option Addr) (t19_L_len t19_L_cap : Nat),
     w_1.cell? ((p.add (i.toNat * 6)).add 5) = some (.slice t19_L t19_L_len t19_L_cap) ∧ (
     Calls Try.prog 22 #[.agg #[.int .i64 t19_Kind, .int .i64 t19_Op, .string t19_S, .string t19_T, .int .i64 t19_N, .slice t19_L t19_L_len t19_L_cap], .int .i64 (1 : Int)] w_1 fun (e : Ending) (w_2 : World) => (
     ∃ r_at : ByteArray,
     e = .returned (.string r_at) ∧ (
     (((s ++ (⟨#[32, 44, 32]⟩ : ByteArray)).size + r_at.size : Nat) : Int) ≤ 9223372036854775807 ∧ (
     -- umlautref18.go:73
     I ((s ++ (⟨#[32, 44, 32]⟩ : ByteArray)) ++ r_at) (IntKind.i64.wrap (i + (1 : Int))) w_2 ∧ μ ((s ++ (⟨#[32, 44, 32]⟩ : ByteArray)) ++ r_at) (IntKind.i64.wrap (i + (1 : Int))) w_2 < μ s i w_1))))))))))))))
    ∧ (
     (decide (i > (0 : Int))) = false → (
     -- umlautref18.go:77
     ∃ p_1 : Addr,
     l = some p_1 ∧ (
     (0 ≤ i ∧ i < ((l_len : Nat) : Int)) ∧ (
     ∃ t19_Kind_1 : Int,
     w_1.cell? (p_1.add (i.toNat * 6)) = some (.int .i64 t19_Kind_1) ∧ (
     ∃ t19_Op_1 : Int,
     w_1.cell? ((p_1.add (i.toNat * 6)).add 1) = some (.int .i64 t19_Op_1) ∧ (
     ∃ t19_S_1 : ByteArray,
     w_1.cell? ((p_1.add (i.toNat * 6)).add 2) = some (.string t19_S_1) ∧ (
     ∃ t19_T_1 : ByteArray,
     w_1.cell? ((p_1.add (i.toNat * 6)).add 3) = some (.string t19_T_1) ∧ (
     ∃ t19_N_1 : Int,
     w_1.cell? ((p_1.add (i.toNat * 6)).add 4) = some (.int .i64 t19_N_1) ∧ (
     ∃ (t19_L_1 : Option Addr) (t19_L_len_1 t19_L_cap_1 : Nat),
     w_1.cell? ((p_1.add (i.toNat * 6)).add 5) = some (.slice t19_L_1 t19_L_len_1 t19_L_cap_1) ∧ (
     Calls Try.prog 22 #[.agg #[.int .i64 t19_Kind_1, .int .i64 t19_Op_1, .string t19_S_1, .string t19_T_1, .int .i64 t19_N_1, .slice t19_L_1 t19_L_len_1 t19_L_cap_1], .int .i64 (1 : Int)] w_1 fun (e : Ending) (w_3 : World) => (
     ∃ r_at_1 : ByteArray,
     e = .returned (.string r_at_1) ∧ (
     ((s.size + r_at_1.size : Nat) : Int) ≤ 9223372036854775807 ∧ (
     -- umlautref18.go:73
     I (s ++ r_at_1) (IntKind.i64.wrap (i + (1 : Int))) w_3 ∧ μ (s ++ r_at_1) (IntKind.i64.wrap (i + (1 : Int))) w_3 < μ s i w_1)))))))))))))))
   ∧ (
    (decide (i < ((l_len : Nat) : Int))) = false → (
    -- umlautref18.go:79
    R (.string s) w_1))))
def Sh.ref18_commas_h : Vc.H := (.seq (.reg (.p 0 0 (.done 0))) (.seq (.reg (.p 0 0 (.done 0))) (.seq (.seq (.reg (.p 0 0 (.done 0))) (.block (.loop [((0, 3), .str), ((0, 4), .int .i64)] [(0, 5), (0, 6), (0, 7), (0, 8), (0, 11), (0, 12), (0, 13), (0, 14), (0, 15), (0, 16), (0, 17), (0, 18), (0, 19), (0, 20), (0, 21), (0, 9), (0, 10)] (.seq (.seq (.reg (.p 0 0 (.p 1 0 (.p 2 0 (.p 3 0 (.done 0)))))) (.cond false (.nil 0) (.nil 0))) (.seq (.block (.seq (.seq (.reg (.p 0 0 (.p 1 0 (.done 0)))) (.cond false (.reg (.p 0 0 (.p 1 0 (.p 2 0 (.done 0))))) (.nil 0))) (.reg (.p 0 0 (.p 1 0 (.p 2 0 (.p 3 1 (.o 4 0 (.o 5 0 (.p 6 0 (.p 7 0 (.done 0)))))))))))) (.reg (.p 0 0 (.p 1 0 (.p 2 0 (.done 0)))))))))) (.seq (.reg (.p 0 0 (.p 1 0 (.done 0)))) (.nil 0)))))
theorem Sh.ref18_commas_eq (l : Option Addr) (l_len l_cap : Nat) (w : World) (R : Value → World → Prop) : Sh.ref18_commas l l_len l_cap w R = Vc.vcFn Try.prog tab okF Try.f25 Sh.ref18_commas_h [.slice l l_len l_cap] w R := by kernel_rfl
theorem Sh.ref18_commas_calls (l : Option Addr) (l_len l_cap : Nat) {w : World} {R : Value → World → Prop} (h : Sh.ref18_commas l l_len l_cap w R) : Calls Try.prog 25 #[.slice l l_len l_cap] w fun e w' => ∃ v, e = .returned v ∧ R v w' :=
  Vc.fn_calls mixed tabOk okF_ok Try.func25 (by kernel_rfl) (by kernel_rfl) (by rw [← Sh.ref18_commas_eq l l_len l_cap]; exact h)

def Sh.ref1_Text (x : Int) (w : World) (R : Value → World → Prop) : Prop :=
  -- umlautref1.go:159
  -- umlautref1.go:160
  (
   (x == (-9223372036854775808 : Int)) = true → (
   -- umlautref1.go:161
   R (.string (⟨#[45, 57, 50, 50, 51, 51, 55, 50, 48, 51, 54, 56, 53, 52, 55, 55, 53, 56, 48, 56]⟩ : ByteArray)) w))
  ∧ (
   (x == (-9223372036854775808 : Int)) = false → (
   -- umlautref1.go:163
   (
    (decide (x < (0 : Int))) = true → (
    -- umlautref1.go:164
    Calls Try.prog 26 #[.int .i64 (IntKind.i64.wrap (0 - x))] w fun (e : Ending) (w_1 : World) => (
    ∃ r_Text : ByteArray,
    e = .returned (.string r_Text) ∧ (
    (((⟨#[45]⟩ : ByteArray).size + r_Text.size : Nat) : Int) ≤ 9223372036854775807 ∧ (
    R (.string ((⟨#[45]⟩ : ByteArray) ++ r_Text)) w_1)))))
   ∧ (
    (decide (x < (0 : Int))) = false → (
    -- umlautref1.go:166
    -- LOOP 23: s, x
    ∃ (I : ByteArray → Int → World → Prop) (μ : ByteArray → Int → World → Nat),
    (
     I (⟨#[]⟩ : ByteArray) x w)
    ∧ (
     ∀ (s : ByteArray) (x_1 : Int),
     ∀ w_2 : World,
     I s x_1 w_2 → (
     -- umlautref1.go:167
     (
      (decide (x_1 > (9 : Int))) = true → (
      -- umlautref1.go:168
      (10 : Int) ≠ 0 ∧ (
      -- umlautref1.go:169
      (0 ≤ (x_1.tmod (10 : Int)) ∧ (x_1.tmod (10 : Int)) ≤ (IntKind.i64.wrap ((x_1.tmod (10 : Int)) + (1 : Int))) ∧ (IntKind.i64.wrap ((x_1.tmod (10 : Int)) + (1 : Int))) ≤ ((⟨#[48, 49, 50, 51, 52, 53, 54, 55, 56, 57]⟩ : ByteArray).size : Int)) ∧ (
      ((((⟨#[48, 49, 50, 51, 52, 53, 54, 55, 56, 57]⟩ : ByteArray).extract (x_1.tmod (10 : Int)).toNat (IntKind.i64.wrap ((x_1.tmod (10 : Int)) + (1 : Int))).toNat).size + s.size : Nat) : Int) ≤ 9223372036854775807 ∧ (
      -- umlautref1.go:170
      (10 : Int) ≠ 0 ∧ (
      I (((⟨#[48, 49, 50, 51, 52, 53, 54, 55, 56, 57]⟩ : ByteArray).extract (x_1.tmod (10 : Int)).toNat (IntKind.i64.wrap ((x_1.tmod (10 : Int)) + (1 : Int))).toNat) ++ s) (IntKind.i64.wrap (x_1.tdiv (10 : Int))) w_2 ∧ μ (((⟨#[48, 49, 50, 51, 52, 53, 54, 55, 56, 57]⟩ : ByteArray).extract (x_1.tmod (10 : Int)).toNat (IntKind.i64.wrap ((x_1.tmod (10 : Int)) + (1 : Int))).toNat) ++ s) (IntKind.i64.wrap (x_1.tdiv (10 : Int))) w_2 < μ s x_1 w_2))))))
     ∧ (
      (decide (x_1 > (9 : Int))) = false → (
      -- umlautref1.go:172
      -- umlautref1.go:173
      (0 ≤ x_1 ∧ x_1 ≤ (IntKind.i64.wrap (x_1 + (1 : Int))) ∧ (IntKind.i64.wrap (x_1 + (1 : Int))) ≤ ((⟨#[48, 49, 50, 51, 52, 53, 54, 55, 56, 57]⟩ : ByteArray).size : Int)) ∧ (
      ((((⟨#[48, 49, 50, 51, 52, 53, 54, 55, 56, 57]⟩ : ByteArray).extract x_1.toNat (IntKind.i64.wrap (x_1 + (1 : Int))).toNat).size + s.size : Nat) : Int) ≤ 9223372036854775807 ∧ (
      R (.string (((⟨#[48, 49, 50, 51, 52, 53, 54, 55, 56, 57]⟩ : ByteArray).extract x_1.toNat (IntKind.i64.wrap (x_1 + (1 : Int))).toNat) ++ s)) w_2))))))))))
def Sh.ref1_Text_h : Vc.H := (.seq (.reg (.p 0 0 (.done 0))) (.seq (.seq (.reg (.p 0 0 (.p 1 0 (.done 0)))) (.cond false (.seq (.reg (.p 0 0 (.done 0))) (.nil 0)) (.nil 0))) (.seq (.seq (.reg (.p 0 0 (.p 1 0 (.done 0)))) (.cond false (.seq (.reg (.p 0 0 (.p 1 0 (.o 2 0 (.p 3 0 (.p 4 0 (.done 0))))))) (.nil 0)) (.nil 0))) (.seq (.reg (.p 0 0 (.done 0))) (.seq (.block (.loop [((0, 3), .str), ((0, 0), .int .i64)] [(0, 14), (0, 15), (0, 16), (0, 17), (0, 4), (0, 18), (0, 19), (0, 20), (0, 21), (0, 22), (0, 23), (0, 24), (0, 25)] (.seq (.seq (.reg (.p 0 0 (.p 1 0 (.done 0)))) (.cond false (.nil 0) (.nil 0))) (.block (.seq (.reg (.p 0 0 (.p 1 0 (.p 2 0 (.done 0))))) (.seq (.reg (.p 0 0 (.p 1 0 (.p 2 0 (.p 3 0 (.p 4 0 (.p 5 0 (.p 6 0 (.done 0))))))))) (.reg (.p 0 0 (.p 1 0 (.p 2 0 (.done 0))))))))))) (.seq (.reg (.p 0 0 (.p 1 0 (.done 0)))) (.seq (.reg (.p 0 0 (.p 1 0 (.p 2 0 (.p 3 0 (.p 4 0 (.p 5 0 (.p 6 0 (.done 0))))))))) (.nil 0))))))))
theorem Sh.ref1_Text_eq (x : Int) (w : World) (R : Value → World → Prop) : Sh.ref1_Text x w R = Vc.vcFn Try.prog tab okF Try.f26 Sh.ref1_Text_h [.int .i64 x] w R := by kernel_rfl
theorem Sh.ref1_Text_calls (x : Int) {w : World} {R : Value → World → Prop} (h : Sh.ref1_Text x w R) : Calls Try.prog 26 #[.int .i64 x] w fun e w' => ∃ v, e = .returned v ∧ R v w' :=
  Vc.fn_calls mixed tabOk okF_ok Try.func26 (by kernel_rfl) (by kernel_rfl) (by rw [← Sh.ref1_Text_eq x]; exact h)

def Sh.ref11_Print (v_Kind : Int) (v_N : Int) (v_S : ByteArray) (w : World) (R : Value → World → Prop) : Prop :=
  -- umlautref11.go:87
  ∀ b_v : Nat,
  w.heap.size ≤ b_v → (
  -- umlautref11.go:88
  ∀ w_1 : World,
  Vc.Fr (fun k => k = b_v) w w_1 → (
  b_v < w_1.heap.size → (
  Calls Try.prog 34 #[.agg #[.int .i64 v_Kind, .int .i64 v_N, .string v_S]] w_1 fun (e : Ending) (w_2 : World) => (
  ∃ r_Clean_Kind : Int,
  ∃ r_Clean_N : Int,
  ∃ r_Clean_S : ByteArray,
  e = .returned (.agg #[.int .i64 r_Clean_Kind, .int .i64 r_Clean_N, .string r_Clean_S]) ∧ (
  (b_v < w_1.heap.size → w_2.heap[b_v]? = w_1.heap[b_v]?) ∧ (
  -- umlautref11.go:89
  -- umlautref11.go:90
  (
   (r_Clean_Kind == (0 : Int)) = true → (
   -- umlautref11.go:91
   ∀ w_3 : World,
   Vc.Fr (fun k => k = b_v) w_2 w_3 → (
   b_v < w_3.heap.size → (
   R (.string (⟨#[78, 85, 76, 76]⟩ : ByteArray)) w_3))))
  ∧ (
   (r_Clean_Kind == (0 : Int)) = false → (
   -- umlautref11.go:92
   (
    (r_Clean_Kind == (1 : Int)) = true → (
    -- umlautref11.go:93
    (
     (r_Clean_N == (1 : Int)) = true → (
     -- umlautref11.go:94
     ∀ w_4 : World,
     Vc.Fr (fun k => k = b_v) w_2 w_4 → (
     b_v < w_4.heap.size → (
     R (.string (⟨#[84, 82, 85, 69]⟩ : ByteArray)) w_4))))
    ∧ (
     (r_Clean_N == (1 : Int)) = false → (
     -- umlautref11.go:96
     ∀ w_5 : World,
     Vc.Fr (fun k => k = b_v) w_2 w_5 → (
     b_v < w_5.heap.size → (
     R (.string (⟨#[70, 65, 76, 83, 69]⟩ : ByteArray)) w_5))))))
   ∧ (
    (r_Clean_Kind == (1 : Int)) = false → (
    -- umlautref11.go:97
    (
     (r_Clean_Kind == (2 : Int)) = true → (
     -- umlautref11.go:98
     ∀ w_6 : World,
     Vc.Fr (fun k => k = b_v) w_2 w_6 → (
     b_v < w_6.heap.size → (
     Calls Try.prog 26 #[.int .i64 r_Clean_N] w_6 fun (e : Ending) (w_7 : World) => (
     ∃ r_Text : ByteArray,
     e = .returned (.string r_Text) ∧ (
     (b_v < w_6.heap.size → w_7.heap[b_v]? = w_6.heap[b_v]?) ∧ (
     R (.string r_Text) w_7)))))))
    ∧ (
     (r_Clean_Kind == (2 : Int)) = false → (
     -- umlautref11.go:100
     -- umlautref11.go:101
     -- LOOP 42: s, i
     ∃ (I : ByteArray → Int → World → Prop) (μ : ByteArray → Int → World → Nat),
     (
      ∀ w_8 : World,
      Vc.Fr (fun k => k = b_v) w_2 w_8 → (
      b_v < w_8.heap.size → (
      I (⟨#[39]⟩ : ByteArray) (0 : Int) w_8)))
     ∧ (
      ∀ (s : ByteArray) (i : Int),
      ∀ w_9 : World,
      I s i w_9 → (
      -- umlautref11.go:101
      (
       (decide (i < (r_Clean_S.size : Int))) = true → (
       -- umlautref11.go:102
       ∃ c : UInt8,
       (0 ≤ i ∧ r_Clean_S[i.toNat]? = some c) ∧ (
       (
        ((c.toNat : Int) == (39 : Int)) = true → (
        -- umlautref11.go:103
        ((s.size + (⟨#[39]⟩ : ByteArray).size : Nat) : Int) ≤ 9223372036854775807 ∧ (
        -- umlautref11.go:105
        (0 ≤ i ∧ i ≤ (IntKind.i64.wrap (i + (1 : Int))) ∧ (IntKind.i64.wrap (i + (1 : Int))) ≤ (r_Clean_S.size : Int)) ∧ (
        (((s ++ (⟨#[39]⟩ : ByteArray)).size + (r_Clean_S.extract i.toNat (IntKind.i64.wrap (i + (1 : Int))).toNat).size : Nat) : Int) ≤ 9223372036854775807 ∧ (
        -- umlautref11.go:101
        I ((s ++ (⟨#[39]⟩ : ByteArray)) ++ (r_Clean_S.extract i.toNat (IntKind.i64.wrap (i + (1 : Int))).toNat)) (IntKind.i64.wrap (i + (1 : Int))) w_9 ∧ μ ((s ++ (⟨#[39]⟩ : ByteArray)) ++ (r_Clean_S.extract i.toNat (IntKind.i64.wrap (i + (1 : Int))).toNat)) (IntKind.i64.wrap (i + (1 : Int))) w_9 < μ s i w_9)))))
       ∧ (
        ((c.toNat : Int) == (39 : Int)) = false → (
        -- umlautref11.go:105
        (0 ≤ i ∧ i ≤ (IntKind.i64.wrap (i + (1 : Int))) ∧ (IntKind.i64.wrap (i + (1 : Int))) ≤ (r_Clean_S.size : Int)) ∧ (
        ((s.size + (r_Clean_S.extract i.toNat (IntKind.i64.wrap (i + (1 : Int))).toNat).size : Nat) : Int) ≤ 9223372036854775807 ∧ (
        -- umlautref11.go:101
        I (s ++ (r_Clean_S.extract i.toNat (IntKind.i64.wrap (i + (1 : Int))).toNat)) (IntKind.i64.wrap (i + (1 : Int))) w_9 ∧ μ (s ++ (r_Clean_S.extract i.toNat (IntKind.i64.wrap (i + (1 : Int))).toNat)) (IntKind.i64.wrap (i + (1 : Int))) w_9 < μ s i w_9)))))))
      ∧ (
       (decide (i < (r_Clean_S.size : Int))) = false → (
       -- umlautref11.go:107
       ((s.size + (⟨#[39]⟩ : ByteArray).size : Nat) : Int) ≤ 9223372036854775807 ∧ (
       R (.string (s ++ (⟨#[39]⟩ : ByteArray))) w_9)))))))))))))))))
def Sh.ref11_Print_h : Vc.H := (.seq (.reg (.o 0 1 (.p 1 0 (.done 0)))) (.seq (.reg (.p 0 0 (.o 1 0 (.o 2 0 (.done 0))))) (.seq (.seq (.reg (.p 0 0 (.p 1 0 (.done 0)))) (.block (.seq (.reg (.p 0 0 (.p 1 0 (.done 0)))) (.cond false (.seq (.reg (.p 0 0 (.done 0))) (.nil 0)) (.seq (.reg (.p 0 0 (.p 1 0 (.done 0)))) (.cond false (.seq (.seq (.reg (.p 0 0 (.p 1 0 (.p 2 0 (.done 0))))) (.cond false (.seq (.reg (.p 0 0 (.done 0))) (.nil 0)) (.nil 0))) (.seq (.reg (.p 0 0 (.done 0))) (.nil 0))) (.seq (.reg (.p 0 0 (.p 1 0 (.done 0)))) (.cond false (.seq (.reg (.p 0 0 (.p 1 0 (.o 2 0 (.p 3 0 (.done 0)))))) (.nil 0)) (.nil 0))))))))) (.seq (.reg (.p 0 0 (.done 0))) (.seq (.seq (.reg (.p 0 0 (.done 0))) (.block (.loop [((0, 3), .str), ((0, 4), .int .i64)] [(0, 21), (0, 22), (0, 23), (0, 24), (0, 25), (0, 28), (0, 29), (0, 30), (0, 31), (0, 32), (0, 33), (0, 34), (0, 35), (0, 36), (0, 37), (0, 38), (0, 39), (0, 40), (0, 41), (0, 42), (0, 26), (0, 27)] (.seq (.seq (.reg (.p 0 0 (.p 1 0 (.p 2 0 (.p 3 0 (.p 4 0 (.done 0))))))) (.cond false (.nil 0) (.nil 0))) (.seq (.block (.seq (.seq (.reg (.p 0 0 (.p 1 0 (.p 2 0 (.p 3 0 (.p 4 0 (.done 0))))))) (.cond false (.reg (.p 0 0 (.p 1 0 (.p 2 0 (.done 0))))) (.nil 0))) (.reg (.p 0 0 (.p 1 0 (.p 2 0 (.p 3 0 (.p 4 0 (.p 5 0 (.p 6 0 (.p 7 0 (.p 8 0 (.done 0))))))))))))) (.reg (.p 0 0 (.p 1 0 (.p 2 0 (.done 0)))))))))) (.seq (.reg (.p 0 0 (.p 1 0 (.p 2 0 (.done 0))))) (.nil 0)))))))
theorem Sh.ref11_Print_eq (v_Kind : Int) (v_N : Int) (v_S : ByteArray) (w : World) (R : Value → World → Prop) : Sh.ref11_Print v_Kind v_N v_S w R = Vc.vcFn Try.prog tab okF Try.f27 Sh.ref11_Print_h [.agg #[.int .i64 v_Kind, .int .i64 v_N, .string v_S]] w R := by kernel_rfl
theorem Sh.ref11_Print_calls (v_Kind : Int) (v_N : Int) (v_S : ByteArray) {w : World} {R : Value → World → Prop} (h : Sh.ref11_Print v_Kind v_N v_S w R) : Calls Try.prog 27 #[.agg #[.int .i64 v_Kind, .int .i64 v_N, .string v_S]] w fun e w' => ∃ v, e = .returned v ∧ R v w' :=
  Vc.fn_calls mixed tabOk okF_ok Try.func27 (by kernel_rfl) (by kernel_rfl) (by rw [← Sh.ref11_Print_eq v_Kind v_N v_S]; exact h)

def Sh.ref11_Text (s : ByteArray) (w : World) (R : Value → World → Prop) : Prop :=
  -- umlautref11.go:47
  ∀ b2 : Nat,
  w.heap.size ≤ b2 → (
  -- umlautref11.go:47
  ∀ w_1 : World,
  Vc.Fr (fun k => k = b2) w w_1 → (
  b2 < w_1.heap.size → (
  R (.agg #[.int .i64 (3 : Int), .int .i64 (0 : Int), .string s]) w_1)))
def Sh.ref11_Text_h : Vc.H := (.seq (.reg (.o 0 1 (.done 0))) (.seq (.reg (.p 0 0 (.p 1 0 (.o 2 0 (.done 0))))) (.nil 0)))
theorem Sh.ref11_Text_eq (s : ByteArray) (w : World) (R : Value → World → Prop) : Sh.ref11_Text s w R = Vc.vcFn Try.prog tab okF Try.f28 Sh.ref11_Text_h [.string s] w R := by kernel_rfl
theorem Sh.ref11_Text_calls (s : ByteArray) {w : World} {R : Value → World → Prop} (h : Sh.ref11_Text s w R) : Calls Try.prog 28 #[.string s] w fun e w' => ∃ v, e = .returned v ∧ R v w' :=
  Vc.fn_calls mixed tabOk okF_ok Try.func28 (by kernel_rfl) (by kernel_rfl) (by rw [← Sh.ref11_Text_eq s]; exact h)

def Sh.ref11_Clean (v_Kind : Int) (v_N : Int) (v_S : ByteArray) (w : World) (R : Value → World → Prop) : Prop :=
  -- umlautref11.go:28
  ∀ b_v : Nat,
  w.heap.size ≤ b_v → (
  ∀ b2 : Nat,
  w.heap.size ≤ b2 → (
  b2 ≠ b_v → (
  -- umlautref11.go:29
  ∀ w_1 : World,
  Vc.Fr (fun k => k = b2 ∨ k = b_v) w w_1 → (
  b2 < w_1.heap.size → (
  b_v < w_1.heap.size → (
  Calls Try.prog 43 #[.agg #[.int .i64 v_Kind, .int .i64 v_N, .string v_S]] w_1 fun (e : Ending) (w_2 : World) => (
  ∃ r_Ok : Bool,
  e = .returned (.bool r_Ok) ∧ (
  (b2 < w_1.heap.size → w_2.heap[b2]? = w_1.heap[b2]?) ∧ (
  (b_v < w_1.heap.size → w_2.heap[b_v]? = w_1.heap[b_v]?) ∧ (
  (
   (!r_Ok) = true → (
   -- umlautref11.go:30
   ∀ w_3 : World,
   Vc.Fr (fun k => k = b2 ∨ k = b_v) w_2 w_3 → (
   b2 < w_3.heap.size → (
   b_v < w_3.heap.size → (
   R (.agg #[.int .i64 (0 : Int), .int .i64 (0 : Int), .string (⟨#[]⟩ : ByteArray)]) w_3)))))
  ∧ (
   (!r_Ok) = false → (
   -- umlautref11.go:32
   ∀ w_4 : World,
   Vc.Fr (fun k => k = b2 ∨ k = b_v) w_2 w_4 → (
   b2 < w_4.heap.size → (
   b_v < w_4.heap.size → (
   R (.agg #[.int .i64 v_Kind, .int .i64 v_N, .string v_S]) w_4)))))))))))))))
def Sh.ref11_Clean_h : Vc.H := (.seq (.reg (.o 0 1 (.o 1 1 (.done 0)))) (.seq (.seq (.reg (.p 0 0 (.o 1 0 (.p 2 0 (.done 0))))) (.cond false (.seq (.reg (.p 0 0 (.o 1 0 (.done 0)))) (.nil 0)) (.nil 0))) (.seq (.reg (.p 0 0 (.o 1 0 (.done 0)))) (.nil 0))))
theorem Sh.ref11_Clean_eq (v_Kind : Int) (v_N : Int) (v_S : ByteArray) (w : World) (R : Value → World → Prop) : Sh.ref11_Clean v_Kind v_N v_S w R = Vc.vcFn Try.prog tab okF Try.f34 Sh.ref11_Clean_h [.agg #[.int .i64 v_Kind, .int .i64 v_N, .string v_S]] w R := by kernel_rfl
theorem Sh.ref11_Clean_calls (v_Kind : Int) (v_N : Int) (v_S : ByteArray) {w : World} {R : Value → World → Prop} (h : Sh.ref11_Clean v_Kind v_N v_S w R) : Calls Try.prog 34 #[.agg #[.int .i64 v_Kind, .int .i64 v_N, .string v_S]] w fun e w' => ∃ v, e = .returned v ∧ R v w' :=
  Vc.fn_calls mixed tabOk okF_ok Try.func34 (by kernel_rfl) (by kernel_rfl) (by rw [← Sh.ref11_Clean_eq v_Kind v_N v_S]; exact h)

def Sh.ref11_Ok (v_Kind : Int) (v_N : Int) (v_S : ByteArray) (w : World) (R : Value → World → Prop) : Prop :=
  -- umlautref11.go:23
  ∀ b_v : Nat,
  w.heap.size ≤ b_v → (
  -- umlautref11.go:24
  ((decide (v_Kind ≥ (0 : Int))) = true → (decide (v_Kind ≥ (0 : Int))) = true) ∧ (
  ((decide (v_Kind ≥ (0 : Int))) = true → (decide (v_Kind ≥ (0 : Int))) = true) ∧ (
  ((decide (v_Kind ≥ (0 : Int))) = true → (decide (v_Kind ≥ (0 : Int))) = true) ∧ (
  (((decide (v_Kind ≥ (0 : Int))) && (decide (v_Kind ≤ (3 : Int)))) = true → ((decide (v_Kind ≥ (0 : Int))) && (decide (v_Kind ≤ (3 : Int)))) = true) ∧ (
  (((decide (v_Kind ≥ (0 : Int))) && (decide (v_Kind ≤ (3 : Int)))) = true → ((decide (v_Kind ≥ (0 : Int))) && (decide (v_Kind ≤ (3 : Int)))) = true) ∧ (
  (((decide (v_Kind ≥ (0 : Int))) && (decide (v_Kind ≤ (3 : Int)))) = true → ((decide (v_Kind ≥ (0 : Int))) && (decide (v_Kind ≤ (3 : Int)))) = true) ∧ (
  ((((decide (v_Kind ≥ (0 : Int))) && (decide (v_Kind ≤ (3 : Int)))) && (!(v_N == (0 : Int)))) = true → (((decide (v_Kind ≥ (0 : Int))) && (decide (v_Kind ≤ (3 : Int)))) && (!(v_N == (0 : Int)))) = true) ∧ (
  ((((decide (v_Kind ≥ (0 : Int))) && (decide (v_Kind ≤ (3 : Int)))) && (!(v_N == (0 : Int)))) = true → (((decide (v_Kind ≥ (0 : Int))) && (decide (v_Kind ≤ (3 : Int)))) && (!(v_N == (0 : Int)))) = true) ∧ (
  (((decide (v_Kind ≥ (0 : Int))) && (decide (v_Kind ≤ (3 : Int)))) = true → ((decide (v_Kind ≥ (0 : Int))) && (decide (v_Kind ≤ (3 : Int)))) = true) ∧ (
  (((decide (v_Kind ≥ (0 : Int))) && (decide (v_Kind ≤ (3 : Int)))) = true → (v_N == (0 : Int)) = false → (((decide (v_Kind ≥ (0 : Int))) && (decide (v_Kind ≤ (3 : Int)))) && (!(v_N == (0 : Int)))) = true) ∧ (
  (((decide (v_Kind ≥ (0 : Int))) && (decide (v_Kind ≤ (3 : Int)))) = true → ((decide (v_Kind ≥ (0 : Int))) && (decide (v_Kind ≤ (3 : Int)))) = true) ∧ (
  ((((decide (v_Kind ≥ (0 : Int))) && (decide (v_Kind ≤ (3 : Int)))) && (!((v_N == (0 : Int)) || (v_Kind == (2 : Int))))) = true → (((decide (v_Kind ≥ (0 : Int))) && (decide (v_Kind ≤ (3 : Int)))) && (!((v_N == (0 : Int)) || (v_Kind == (2 : Int))))) = true) ∧ (
  ((((decide (v_Kind ≥ (0 : Int))) && (decide (v_Kind ≤ (3 : Int)))) && (!((v_N == (0 : Int)) || (v_Kind == (2 : Int))))) = true → (((decide (v_Kind ≥ (0 : Int))) && (decide (v_Kind ≤ (3 : Int)))) && (!((v_N == (0 : Int)) || (v_Kind == (2 : Int))))) = true) ∧ (
  ((((decide (v_Kind ≥ (0 : Int))) && (decide (v_Kind ≤ (3 : Int)))) && (!((v_N == (0 : Int)) || (v_Kind == (2 : Int))))) = true → (((decide (v_Kind ≥ (0 : Int))) && (decide (v_Kind ≤ (3 : Int)))) && (!((v_N == (0 : Int)) || (v_Kind == (2 : Int))))) = true) ∧ (
  (((((decide (v_Kind ≥ (0 : Int))) && (decide (v_Kind ≤ (3 : Int)))) && (!((v_N == (0 : Int)) || (v_Kind == (2 : Int))))) && (v_Kind == (1 : Int))) = true → ((((decide (v_Kind ≥ (0 : Int))) && (decide (v_Kind ≤ (3 : Int)))) && (!((v_N == (0 : Int)) || (v_Kind == (2 : Int))))) && (v_Kind == (1 : Int))) = true) ∧ (
  (((((decide (v_Kind ≥ (0 : Int))) && (decide (v_Kind ≤ (3 : Int)))) && (!((v_N == (0 : Int)) || (v_Kind == (2 : Int))))) && (v_Kind == (1 : Int))) = true → ((((decide (v_Kind ≥ (0 : Int))) && (decide (v_Kind ≤ (3 : Int)))) && (!((v_N == (0 : Int)) || (v_Kind == (2 : Int))))) && (v_Kind == (1 : Int))) = true) ∧ (
  ((((decide (v_Kind ≥ (0 : Int))) && (decide (v_Kind ≤ (3 : Int)))) && (!((v_N == (0 : Int)) || (v_Kind == (2 : Int))))) = true → (((decide (v_Kind ≥ (0 : Int))) && (decide (v_Kind ≤ (3 : Int)))) && (!((v_N == (0 : Int)) || (v_Kind == (2 : Int))))) = true) ∧ (
  ((((decide (v_Kind ≥ (0 : Int))) && (decide (v_Kind ≤ (3 : Int)))) && (!((v_N == (0 : Int)) || (v_Kind == (2 : Int))))) = true → (v_Kind == (1 : Int)) = true → ((((decide (v_Kind ≥ (0 : Int))) && (decide (v_Kind ≤ (3 : Int)))) && (!((v_N == (0 : Int)) || (v_Kind == (2 : Int))))) && (v_Kind == (1 : Int))) = true) ∧ (
  (((decide (v_Kind ≥ (0 : Int))) && (decide (v_Kind ≤ (3 : Int)))) = true → ((decide (v_Kind ≥ (0 : Int))) && (decide (v_Kind ≤ (3 : Int)))) = true) ∧ (
  (((decide (v_Kind ≥ (0 : Int))) && (decide (v_Kind ≤ (3 : Int)))) = true → ((v_N == (0 : Int)) || (v_Kind == (2 : Int))) = false → (((decide (v_Kind ≥ (0 : Int))) && (decide (v_Kind ≤ (3 : Int)))) && (!((v_N == (0 : Int)) || (v_Kind == (2 : Int))))) = true) ∧ (
  (((decide (v_Kind ≥ (0 : Int))) && (decide (v_Kind ≤ (3 : Int)))) = true → ((decide (v_Kind ≥ (0 : Int))) && (decide (v_Kind ≤ (3 : Int)))) = true) ∧ (
  ((((decide (v_Kind ≥ (0 : Int))) && (decide (v_Kind ≤ (3 : Int)))) && (((v_N == (0 : Int)) || (v_Kind == (2 : Int))) || ((v_Kind == (1 : Int)) && (v_N == (1 : Int))))) = true → (((decide (v_Kind ≥ (0 : Int))) && (decide (v_Kind ≤ (3 : Int)))) && (((v_N == (0 : Int)) || (v_Kind == (2 : Int))) || ((v_Kind == (1 : Int)) && (v_N == (1 : Int))))) = true) ∧ (
  ((((decide (v_Kind ≥ (0 : Int))) && (decide (v_Kind ≤ (3 : Int)))) && (((v_N == (0 : Int)) || (v_Kind == (2 : Int))) || ((v_Kind == (1 : Int)) && (v_N == (1 : Int))))) = true → (((decide (v_Kind ≥ (0 : Int))) && (decide (v_Kind ≤ (3 : Int)))) && (((v_N == (0 : Int)) || (v_Kind == (2 : Int))) || ((v_Kind == (1 : Int)) && (v_N == (1 : Int))))) = true) ∧ (
  ((((decide (v_Kind ≥ (0 : Int))) && (decide (v_Kind ≤ (3 : Int)))) && (((v_N == (0 : Int)) || (v_Kind == (2 : Int))) || ((v_Kind == (1 : Int)) && (v_N == (1 : Int))))) = true → (((decide (v_Kind ≥ (0 : Int))) && (decide (v_Kind ≤ (3 : Int)))) && (((v_N == (0 : Int)) || (v_Kind == (2 : Int))) || ((v_Kind == (1 : Int)) && (v_N == (1 : Int))))) = true) ∧ (
  (((((decide (v_Kind ≥ (0 : Int))) && (decide (v_Kind ≤ (3 : Int)))) && (((v_N == (0 : Int)) || (v_Kind == (2 : Int))) || ((v_Kind == (1 : Int)) && (v_N == (1 : Int))))) && (!(v_S.toList == (⟨#[]⟩ : ByteArray).toList))) = true → ((((decide (v_Kind ≥ (0 : Int))) && (decide (v_Kind ≤ (3 : Int)))) && (((v_N == (0 : Int)) || (v_Kind == (2 : Int))) || ((v_Kind == (1 : Int)) && (v_N == (1 : Int))))) && (!(v_S.toList == (⟨#[]⟩ : ByteArray).toList))) = true) ∧ (
  (((((decide (v_Kind ≥ (0 : Int))) && (decide (v_Kind ≤ (3 : Int)))) && (((v_N == (0 : Int)) || (v_Kind == (2 : Int))) || ((v_Kind == (1 : Int)) && (v_N == (1 : Int))))) && (!(v_S.toList == (⟨#[]⟩ : ByteArray).toList))) = true → ((((decide (v_Kind ≥ (0 : Int))) && (decide (v_Kind ≤ (3 : Int)))) && (((v_N == (0 : Int)) || (v_Kind == (2 : Int))) || ((v_Kind == (1 : Int)) && (v_N == (1 : Int))))) && (!(v_S.toList == (⟨#[]⟩ : ByteArray).toList))) = true) ∧ (
  ((((decide (v_Kind ≥ (0 : Int))) && (decide (v_Kind ≤ (3 : Int)))) && (((v_N == (0 : Int)) || (v_Kind == (2 : Int))) || ((v_Kind == (1 : Int)) && (v_N == (1 : Int))))) = true → (((decide (v_Kind ≥ (0 : Int))) && (decide (v_Kind ≤ (3 : Int)))) && (((v_N == (0 : Int)) || (v_Kind == (2 : Int))) || ((v_Kind == (1 : Int)) && (v_N == (1 : Int))))) = true) ∧ (
  ((((decide (v_Kind ≥ (0 : Int))) && (decide (v_Kind ≤ (3 : Int)))) && (((v_N == (0 : Int)) || (v_Kind == (2 : Int))) || ((v_Kind == (1 : Int)) && (v_N == (1 : Int))))) = true → (v_S.toList == (⟨#[]⟩ : ByteArray).toList) = false → ((((decide (v_Kind ≥ (0 : Int))) && (decide (v_Kind ≤ (3 : Int)))) && (((v_N == (0 : Int)) || (v_Kind == (2 : Int))) || ((v_Kind == (1 : Int)) && (v_N == (1 : Int))))) && (!(v_S.toList == (⟨#[]⟩ : ByteArray).toList))) = true) ∧ (
  ((((decide (v_Kind ≥ (0 : Int))) && (decide (v_Kind ≤ (3 : Int)))) && (((v_N == (0 : Int)) || (v_Kind == (2 : Int))) || ((v_Kind == (1 : Int)) && (v_N == (1 : Int))))) = true → (((decide (v_Kind ≥ (0 : Int))) && (decide (v_Kind ≤ (3 : Int)))) && (((v_N == (0 : Int)) || (v_Kind == (2 : Int))) || ((v_Kind == (1 : Int)) && (v_N == (1 : Int))))) = true) ∧ (
  ∀ w_1 : World,
  Vc.Fr (fun k => k = b_v) w w_1 → (
  b_v < w_1.heap.size → (
  R (.bool ((((decide (v_Kind ≥ (0 : Int))) && (decide (v_Kind ≤ (3 : Int)))) && (((v_N == (0 : Int)) || (v_Kind == (2 : Int))) || ((v_Kind == (1 : Int)) && (v_N == (1 : Int))))) && ((v_S.toList == (⟨#[]⟩ : ByteArray).toList) || (v_Kind == (3 : Int))))) w_1))))))))))))))))))))))))))))))))
def Sh.ref11_Ok_h : Vc.H := (.seq (.reg (.o 0 1 (.p 1 0 (.done 0)))) (.seq (.reg (.p 0 0 (.p 1 0 (.p 2 0 (.p 3 0 (.p 4 0 (.p 5 0 (.p 6 0 (.p 7 0 (.p 8 0 (.p 9 0 (.p 10 0 (.p 11 0 (.p 12 0 (.p 13 0 (.p 14 0 (.p 15 0 (.p 16 0 (.p 17 0 (.p 18 0 (.p 19 0 (.p 20 0 (.p 21 0 (.p 22 0 (.p 23 0 (.p 24 0 (.p 25 0 (.p 26 0 (.p 27 0 (.p 28 0 (.p 29 0 (.p 30 0 (.p 31 0 (.p 32 0 (.p 33 0 (.p 34 0 (.p 35 0 (.p 36 0 (.p 37 0 (.p 38 0 (.done 0))))))))))))))))))))))))))))))))))))))))) (.nil 0)))
theorem Sh.ref11_Ok_eq (v_Kind : Int) (v_N : Int) (v_S : ByteArray) (w : World) (R : Value → World → Prop) : Sh.ref11_Ok v_Kind v_N v_S w R = Vc.vcFn Try.prog tab okF Try.f43 Sh.ref11_Ok_h [.agg #[.int .i64 v_Kind, .int .i64 v_N, .string v_S]] w R := by kernel_rfl
theorem Sh.ref11_Ok_calls (v_Kind : Int) (v_N : Int) (v_S : ByteArray) {w : World} {R : Value → World → Prop} (h : Sh.ref11_Ok v_Kind v_N v_S w R) : Calls Try.prog 43 #[.agg #[.int .i64 v_Kind, .int .i64 v_N, .string v_S]] w fun e w' => ∃ v, e = .returned v ∧ R v w' :=
  Vc.fn_calls mixed tabOk okF_ok Try.func43 (by kernel_rfl) (by kernel_rfl) (by rw [← Sh.ref11_Ok_eq v_Kind v_N v_S]; exact h)

def Sh.ref1_Parse (s : ByteArray) (w : World) (R : Value → World → Prop) : Prop :=
  -- umlautref1.go:177
  -- umlautref1.go:178
  ((decide ((s.size : Int) > (0 : Int))) = true → (decide ((s.size : Int) > (0 : Int))) = true) ∧ (
  ∃ c : UInt8,
  ((decide ((s.size : Int) > (0 : Int))) = true → 0 ≤ (0 : Int) ∧ s[(0 : Int).toNat]? = some c) ∧ (
  ((decide ((s.size : Int) > (0 : Int))) = true → (decide ((s.size : Int) > (0 : Int))) = true) ∧ (
  ((decide ((s.size : Int) > (0 : Int))) = true → (decide ((s.size : Int) > (0 : Int))) = true) ∧ (
  -- umlautref1.go:179
  (
   ((decide ((s.size : Int) > (0 : Int))) && ((c.toNat : Int) == (45 : Int))) = true → (
   -- umlautref1.go:180
   (0 ≤ (1 : Int) ∧ (1 : Int) ≤ (s.size : Int)) ∧ (
   -- umlautref1.go:182
   -- LOOP 15: i
   ∃ (I : Int → World → Prop) (μ : Int → World → Nat),
   (
    I (0 : Int) w)
   ∧ (
    ∀ (i : Int),
    ∀ w_1 : World,
    I i w_1 → (
    -- umlautref1.go:182
    (
     (decide (i < ((s.extract (1 : Int).toNat s.size).size : Int))) = true → (
     -- umlautref1.go:183
     ∃ c_1 : UInt8,
     (0 ≤ i ∧ (s.extract (1 : Int).toNat s.size)[i.toNat]? = some c_1) ∧ (
     ((!(decide ((c_1.toNat : Int) < (48 : Int)))) = true → (!(decide ((c_1.toNat : Int) < (48 : Int)))) = true) ∧ (
     ((!(decide ((c_1.toNat : Int) < (48 : Int)))) = true → (!(decide ((c_1.toNat : Int) < (48 : Int)))) = true) ∧ (
     ∃ c_2 : UInt8,
     ((!(decide ((c_1.toNat : Int) < (48 : Int)))) = true → 0 ≤ i ∧ (s.extract (1 : Int).toNat s.size)[i.toNat]? = some c_2) ∧ (
     ((!(decide ((c_1.toNat : Int) < (48 : Int)))) = true → (!(decide ((c_1.toNat : Int) < (48 : Int)))) = true) ∧ (
     ((decide ((c_1.toNat : Int) < (48 : Int))) = false → (!(decide ((c_1.toNat : Int) < (48 : Int)))) = true) ∧ (
     (
      ((decide ((c_1.toNat : Int) < (48 : Int))) || (decide ((c_2.toNat : Int) > (57 : Int)))) = true → (
      -- umlautref1.go:184
      R (.tuple #[.int .i64 (0 : Int), .int .i64 (3 : Int)]) w_1))
     ∧ (
      ((decide ((c_1.toNat : Int) < (48 : Int))) || (decide ((c_2.toNat : Int) > (57 : Int)))) = false → (
      -- umlautref1.go:182
      I (IntKind.i64.wrap (i + (1 : Int))) w_1 ∧ μ (IntKind.i64.wrap (i + (1 : Int))) w_1 < μ i w_1))))))))))
    ∧ (
     (decide (i < ((s.extract (1 : Int).toNat s.size).size : Int))) = false → (
     -- umlautref1.go:187
     (
      ((s.extract (1 : Int).toNat s.size).toList == (⟨#[]⟩ : ByteArray).toList) = true → (
      -- umlautref1.go:188
      R (.tuple #[.int .i64 (0 : Int), .int .i64 (3 : Int)]) w_1))
     ∧ (
      ((s.extract (1 : Int).toNat s.size).toList == (⟨#[]⟩ : ByteArray).toList) = false → (
      -- umlautref1.go:190
      -- umlautref1.go:191
      -- LOOP 46: x, i
      ∃ (I_1 : Int → Int → World → Prop) (μ_1 : Int → Int → World → Nat),
      (
       I_1 (0 : Int) (0 : Int) w_1)
      ∧ (
       ∀ (x : Int) (i_1 : Int),
       ∀ w_2 : World,
       I_1 x i_1 w_2 → (
       -- umlautref1.go:191
       (
        (decide (i_1 < ((s.extract (1 : Int).toNat s.size).size : Int))) = true → (
        -- umlautref1.go:192
        Calls Try.prog 57 #[.int .i64 x, .int .i64 (10 : Int)] w_2 fun (e : Ending) (w_3 : World) => (
        ∃ r_Mula : Int,
        ∃ r_Mulb : Int,
        e = .returned (.tuple #[.int .i64 r_Mula, .int .i64 r_Mulb]) ∧ (
        -- umlautref1.go:193
        (
         (r_Mulb != (0 : Int)) = true → (
         -- umlautref1.go:194
         R (.tuple #[.int .i64 (0 : Int), .int .i64 r_Mulb]) w_3))
        ∧ (
         (r_Mulb != (0 : Int)) = false → (
         -- umlautref1.go:196
         ∃ c_3 : UInt8,
         (0 ≤ i_1 ∧ (s.extract (1 : Int).toNat s.size)[i_1.toNat]? = some c_3) ∧ (
         -- umlautref1.go:197
         (
          ((decide ((s.size : Int) > (0 : Int))) && ((c.toNat : Int) == (45 : Int))) = true → (
          -- umlautref1.go:198
          -- umlautref1.go:200
          Calls Try.prog 58 #[.int .i64 r_Mula, .int .i64 (IntKind.i64.wrap (0 - (IntKind.i64.wrap (IntKind.u8.wrap ((c_3.toNat : Int) - (48 : Int))))))] w_3 fun (e : Ending) (w_4 : World) => (
          ∃ r_Adda : Int,
          ∃ r_Addb : Int,
          e = .returned (.tuple #[.int .i64 r_Adda, .int .i64 r_Addb]) ∧ (
          -- umlautref1.go:201
          (
           (r_Addb != (0 : Int)) = true → (
           -- umlautref1.go:202
           R (.tuple #[.int .i64 (0 : Int), .int .i64 r_Addb]) w_4))
          ∧ (
           (r_Addb != (0 : Int)) = false → (
           -- umlautref1.go:204
           -- umlautref1.go:191
           I_1 r_Adda (IntKind.i64.wrap (i_1 + (1 : Int))) w_4 ∧ μ_1 r_Adda (IntKind.i64.wrap (i_1 + (1 : Int))) w_4 < μ_1 x i_1 w_2))))))
         ∧ (
          ((decide ((s.size : Int) > (0 : Int))) && ((c.toNat : Int) == (45 : Int))) = false → (
          -- umlautref1.go:200
          Calls Try.prog 58 #[.int .i64 r_Mula, .int .i64 (IntKind.i64.wrap (IntKind.u8.wrap ((c_3.toNat : Int) - (48 : Int))))] w_3 fun (e : Ending) (w_5 : World) => (
          ∃ r_Adda_1 : Int,
          ∃ r_Addb_1 : Int,
          e = .returned (.tuple #[.int .i64 r_Adda_1, .int .i64 r_Addb_1]) ∧ (
          -- umlautref1.go:201
          (
           (r_Addb_1 != (0 : Int)) = true → (
           -- umlautref1.go:202
           R (.tuple #[.int .i64 (0 : Int), .int .i64 r_Addb_1]) w_5))
          ∧ (
           (r_Addb_1 != (0 : Int)) = false → (
           -- umlautref1.go:204
           -- umlautref1.go:191
           I_1 r_Adda_1 (IntKind.i64.wrap (i_1 + (1 : Int))) w_5 ∧ μ_1 r_Adda_1 (IntKind.i64.wrap (i_1 + (1 : Int))) w_5 < μ_1 x i_1 w_2)))))))))))))
       ∧ (
        (decide (i_1 < ((s.extract (1 : Int).toNat s.size).size : Int))) = false → (
        -- umlautref1.go:206
        R (.tuple #[.int .i64 x, .int .i64 (0 : Int)]) w_2)))))))))))))
  ∧ (
   ((decide ((s.size : Int) > (0 : Int))) && ((c.toNat : Int) == (45 : Int))) = false → (
   -- umlautref1.go:182
   -- LOOP 15: i
   ∃ (I_2 : Int → World → Prop) (μ_2 : Int → World → Nat),
   (
    I_2 (0 : Int) w)
   ∧ (
    ∀ (i_2 : Int),
    ∀ w_6 : World,
    I_2 i_2 w_6 → (
    -- umlautref1.go:182
    (
     (decide (i_2 < (s.size : Int))) = true → (
     -- umlautref1.go:183
     ∃ c_4 : UInt8,
     (0 ≤ i_2 ∧ s[i_2.toNat]? = some c_4) ∧ (
     ((!(decide ((c_4.toNat : Int) < (48 : Int)))) = true → (!(decide ((c_4.toNat : Int) < (48 : Int)))) = true) ∧ (
     ((!(decide ((c_4.toNat : Int) < (48 : Int)))) = true → (!(decide ((c_4.toNat : Int) < (48 : Int)))) = true) ∧ (
     ∃ c_5 : UInt8,
     ((!(decide ((c_4.toNat : Int) < (48 : Int)))) = true → 0 ≤ i_2 ∧ s[i_2.toNat]? = some c_5) ∧ (
     ((!(decide ((c_4.toNat : Int) < (48 : Int)))) = true → (!(decide ((c_4.toNat : Int) < (48 : Int)))) = true) ∧ (
     ((decide ((c_4.toNat : Int) < (48 : Int))) = false → (!(decide ((c_4.toNat : Int) < (48 : Int)))) = true) ∧ (
     (
      ((decide ((c_4.toNat : Int) < (48 : Int))) || (decide ((c_5.toNat : Int) > (57 : Int)))) = true → (
      -- umlautref1.go:184
      R (.tuple #[.int .i64 (0 : Int), .int .i64 (3 : Int)]) w_6))
     ∧ (
      ((decide ((c_4.toNat : Int) < (48 : Int))) || (decide ((c_5.toNat : Int) > (57 : Int)))) = false → (
      -- umlautref1.go:182
      I_2 (IntKind.i64.wrap (i_2 + (1 : Int))) w_6 ∧ μ_2 (IntKind.i64.wrap (i_2 + (1 : Int))) w_6 < μ_2 i_2 w_6))))))))))
    ∧ (
     (decide (i_2 < (s.size : Int))) = false → (
     -- umlautref1.go:187
     (
      (s.toList == (⟨#[]⟩ : ByteArray).toList) = true → (
      -- umlautref1.go:188
      R (.tuple #[.int .i64 (0 : Int), .int .i64 (3 : Int)]) w_6))
     ∧ (
      (s.toList == (⟨#[]⟩ : ByteArray).toList) = false → (
      -- umlautref1.go:190
      -- umlautref1.go:191
      -- LOOP 46: x, i
      ∃ (I_3 : Int → Int → World → Prop) (μ_3 : Int → Int → World → Nat),
      (
       I_3 (0 : Int) (0 : Int) w_6)
      ∧ (
       ∀ (x_1 : Int) (i_3 : Int),
       ∀ w_7 : World,
       I_3 x_1 i_3 w_7 → (
       -- umlautref1.go:191
       (
        (decide (i_3 < (s.size : Int))) = true → (
        -- umlautref1.go:192
        Calls Try.prog 57 #[.int .i64 x_1, .int .i64 (10 : Int)] w_7 fun (e : Ending) (w_8 : World) => (
        ∃ r_Mula_1 : Int,
        ∃ r_Mulb_1 : Int,
        e = .returned (.tuple #[.int .i64 r_Mula_1, .int .i64 r_Mulb_1]) ∧ (
        -- umlautref1.go:193
        (
         (r_Mulb_1 != (0 : Int)) = true → (
         -- umlautref1.go:194
         R (.tuple #[.int .i64 (0 : Int), .int .i64 r_Mulb_1]) w_8))
        ∧ (
         (r_Mulb_1 != (0 : Int)) = false → (
         -- umlautref1.go:196
         ∃ c_6 : UInt8,
         (0 ≤ i_3 ∧ s[i_3.toNat]? = some c_6) ∧ (
         -- umlautref1.go:197
         (
          ((decide ((s.size : Int) > (0 : Int))) && ((c.toNat : Int) == (45 : Int))) = true → (
          -- umlautref1.go:198
          -- umlautref1.go:200
          Calls Try.prog 58 #[.int .i64 r_Mula_1, .int .i64 (IntKind.i64.wrap (0 - (IntKind.i64.wrap (IntKind.u8.wrap ((c_6.toNat : Int) - (48 : Int))))))] w_8 fun (e : Ending) (w_9 : World) => (
          ∃ r_Adda_2 : Int,
          ∃ r_Addb_2 : Int,
          e = .returned (.tuple #[.int .i64 r_Adda_2, .int .i64 r_Addb_2]) ∧ (
          -- umlautref1.go:201
          (
           (r_Addb_2 != (0 : Int)) = true → (
           -- umlautref1.go:202
           R (.tuple #[.int .i64 (0 : Int), .int .i64 r_Addb_2]) w_9))
          ∧ (
           (r_Addb_2 != (0 : Int)) = false → (
           -- umlautref1.go:204
           -- umlautref1.go:191
           I_3 r_Adda_2 (IntKind.i64.wrap (i_3 + (1 : Int))) w_9 ∧ μ_3 r_Adda_2 (IntKind.i64.wrap (i_3 + (1 : Int))) w_9 < μ_3 x_1 i_3 w_7))))))
         ∧ (
          ((decide ((s.size : Int) > (0 : Int))) && ((c.toNat : Int) == (45 : Int))) = false → (
          -- umlautref1.go:200
          Calls Try.prog 58 #[.int .i64 r_Mula_1, .int .i64 (IntKind.i64.wrap (IntKind.u8.wrap ((c_6.toNat : Int) - (48 : Int))))] w_8 fun (e : Ending) (w_10 : World) => (
          ∃ r_Adda_3 : Int,
          ∃ r_Addb_3 : Int,
          e = .returned (.tuple #[.int .i64 r_Adda_3, .int .i64 r_Addb_3]) ∧ (
          -- umlautref1.go:201
          (
           (r_Addb_3 != (0 : Int)) = true → (
           -- umlautref1.go:202
           R (.tuple #[.int .i64 (0 : Int), .int .i64 r_Addb_3]) w_10))
          ∧ (
           (r_Addb_3 != (0 : Int)) = false → (
           -- umlautref1.go:204
           -- umlautref1.go:191
           I_3 r_Adda_3 (IntKind.i64.wrap (i_3 + (1 : Int))) w_10 ∧ μ_3 r_Adda_3 (IntKind.i64.wrap (i_3 + (1 : Int))) w_10 < μ_3 x_1 i_3 w_7)))))))))))))
       ∧ (
        (decide (i_3 < (s.size : Int))) = false → (
        -- umlautref1.go:206
        R (.tuple #[.int .i64 x_1, .int .i64 (0 : Int)]) w_7))))))))))))))))
def Sh.ref1_Parse_h : Vc.H := (.seq (.reg (.p 0 0 (.p 1 0 (.done 0)))) (.seq (.reg (.p 0 0 (.p 1 0 (.p 2 0 (.p 3 0 (.p 4 0 (.p 5 0 (.p 6 0 (.p 7 0 (.p 8 0 (.done 0))))))))))) (.seq (.seq (.reg (.p 0 0 (.done 0))) (.cond false (.reg (.p 0 0 (.p 1 0 (.p 2 0 (.done 0))))) (.nil 0))) (.seq (.seq (.reg (.p 0 0 (.done 0))) (.block (.loop [((0, 5), .int .i64)] [(0, 22), (0, 23), (0, 24), (0, 25), (0, 28), (0, 29), (0, 30), (0, 31), (0, 32), (0, 33), (0, 34), (0, 35), (0, 36), (0, 37), (0, 2), (0, 3), (0, 26), (0, 27)] (.seq (.seq (.reg (.p 0 0 (.p 1 0 (.p 2 0 (.p 3 0 (.done 0)))))) (.cond false (.nil 0) (.nil 0))) (.seq (.block (.seq (.reg (.p 0 0 (.p 1 0 (.p 2 0 (.p 3 0 (.p 4 0 (.p 5 0 (.p 6 0 (.p 7 0 (.p 8 0 (.p 9 0 (.done 0)))))))))))) (.cond false (.seq (.reg (.p 0 0 (.p 1 0 (.done 0)))) (.nil 0)) (.nil 0)))) (.reg (.p 0 0 (.p 1 0 (.p 2 0 (.done 0)))))))))) (.seq (.seq (.reg (.p 0 0 (.p 1 0 (.done 0)))) (.cond false (.seq (.reg (.p 0 0 (.p 1 0 (.done 0)))) (.nil 0)) (.nil 0))) (.seq (.reg (.p 0 0 (.done 0))) (.seq (.seq (.reg (.p 0 0 (.done 0))) (.block (.loop [((0, 6), .int .i64), ((0, 7), .int .i64)] [(0, 40), (0, 41), (0, 42), (0, 43), (0, 47), (0, 48), (0, 46), (0, 49), (0, 50), (0, 8), (0, 9), (0, 51), (0, 52), (0, 53), (0, 2), (0, 3), (0, 54), (0, 55), (0, 56), (0, 57), (0, 58), (0, 10), (0, 59), (0, 60), (0, 61), (0, 63), (0, 64), (0, 65), (0, 62), (0, 66), (0, 67), (0, 68), (0, 69), (0, 70), (0, 71), (0, 44), (0, 45)] (.seq (.seq (.reg (.p 0 0 (.p 1 0 (.p 2 0 (.p 3 0 (.done 0)))))) (.cond false (.nil 0) (.nil 0))) (.seq (.block (.seq (.reg (.p 0 0 (.o 1 0 (.p 2 0 (.p 3 0 (.p 4 0 (.p 5 0 (.p 6 0 (.done 0))))))))) (.seq (.seq (.reg (.p 0 0 (.p 1 0 (.done 0)))) (.cond false (.seq (.reg (.p 0 0 (.p 1 0 (.p 2 0 (.done 0))))) (.nil 0)) (.nil 0))) (.seq (.reg (.p 0 0 (.p 1 0 (.p 2 0 (.p 3 0 (.p 4 0 (.p 5 0 (.done 0)))))))) (.seq (.seq (.reg (.p 0 0 (.done 0))) (.cond false (.reg (.p 0 0 (.p 1 0 (.p 2 0 (.done 0))))) (.nil 0))) (.seq (.reg (.p 0 0 (.p 1 0 (.o 2 0 (.p 3 0 (.p 4 0 (.p 5 0 (.p 6 0 (.p 7 0 (.done 0)))))))))) (.seq (.seq (.reg (.p 0 0 (.p 1 0 (.done 0)))) (.cond false (.seq (.reg (.p 0 0 (.p 1 0 (.p 2 0 (.done 0))))) (.nil 0)) (.nil 0))) (.reg (.p 0 0 (.p 1 0 (.done 0))))))))))) (.reg (.p 0 0 (.p 1 0 (.p 2 0 (.done 0)))))))))) (.seq (.reg (.p 0 0 (.p 1 0 (.p 2 0 (.done 0))))) (.nil 0)))))))))
theorem Sh.ref1_Parse_eq (s : ByteArray) (w : World) (R : Value → World → Prop) : Sh.ref1_Parse s w R = Vc.vcFn Try.prog tab okF Try.f45 Sh.ref1_Parse_h [.string s] w R := by kernel_rfl
theorem Sh.ref1_Parse_calls (s : ByteArray) {w : World} {R : Value → World → Prop} (h : Sh.ref1_Parse s w R) : Calls Try.prog 45 #[.string s] w fun e w' => ∃ v, e = .returned v ∧ R v w' :=
  Vc.fn_calls mixed tabOk okF_ok Try.func45 (by kernel_rfl) (by kernel_rfl) (by rw [← Sh.ref1_Parse_eq s]; exact h)

def Sh.ref1_Mul (a : Int) (b : Int) (w : World) (R : Value → World → Prop) : Prop :=
  -- umlautref1.go:36
  -- umlautref1.go:37
  ((!(a == (0 : Int))) = true → (!(a == (0 : Int))) = true) ∧ (
  ((a == (0 : Int)) = false → (!(a == (0 : Int))) = true) ∧ (
  (
   ((a == (0 : Int)) || (b == (0 : Int))) = true → (
   -- umlautref1.go:38
   R (.tuple #[.int .i64 (0 : Int), .int .i64 (0 : Int)]) w))
  ∧ (
   ((a == (0 : Int)) || (b == (0 : Int))) = false → (
   -- umlautref1.go:40
   (
    (a == (-1 : Int)) = true → (
    -- umlautref1.go:41
    Calls Try.prog 60 #[.int .i64 b] w fun (e : Ending) (w_1 : World) => (
    ∃ r_Nega : Int,
    ∃ r_Negb : Int,
    e = .returned (.tuple #[.int .i64 r_Nega, .int .i64 r_Negb]) ∧ (
    R (.tuple #[.int .i64 r_Nega, .int .i64 r_Negb]) w_1))))
   ∧ (
    (a == (-1 : Int)) = false → (
    -- umlautref1.go:43
    (
     (b == (-1 : Int)) = true → (
     -- umlautref1.go:44
     Calls Try.prog 60 #[.int .i64 a] w fun (e : Ending) (w_2 : World) => (
     ∃ r_Nega_1 : Int,
     ∃ r_Negb_1 : Int,
     e = .returned (.tuple #[.int .i64 r_Nega_1, .int .i64 r_Negb_1]) ∧ (
     R (.tuple #[.int .i64 r_Nega_1, .int .i64 r_Negb_1]) w_2))))
    ∧ (
     (b == (-1 : Int)) = false → (
     -- umlautref1.go:46
     -- umlautref1.go:46
     b ≠ 0 ∧ (
     (
      ((IntKind.i64.wrap ((IntKind.i64.wrap (a * b)).tdiv b)) == a) = true → (
      -- umlautref1.go:47
      R (.tuple #[.int .i64 (IntKind.i64.wrap (a * b)), .int .i64 (0 : Int)]) w))
     ∧ (
      ((IntKind.i64.wrap ((IntKind.i64.wrap (a * b)).tdiv b)) == a) = false → (
      -- umlautref1.go:49
      R (.tuple #[.int .i64 (0 : Int), .int .i64 (17 : Int)]) w)))))))))))
def Sh.ref1_Mul_h : Vc.H := (.seq (.reg (.p 0 0 (.p 1 0 (.done 0)))) (.seq (.seq (.reg (.p 0 0 (.p 1 0 (.p 2 0 (.p 3 0 (.p 4 0 (.p 5 0 (.done 0)))))))) (.cond false (.seq (.reg (.p 0 0 (.p 1 0 (.done 0)))) (.nil 0)) (.nil 0))) (.seq (.seq (.reg (.p 0 0 (.p 1 0 (.done 0)))) (.cond false (.seq (.reg (.p 0 0 (.o 1 0 (.p 2 0 (.p 3 0 (.p 4 0 (.p 5 0 (.done 0)))))))) (.nil 0)) (.nil 0))) (.seq (.seq (.reg (.p 0 0 (.p 1 0 (.done 0)))) (.cond false (.seq (.reg (.p 0 0 (.o 1 0 (.p 2 0 (.p 3 0 (.p 4 0 (.p 5 0 (.done 0)))))))) (.nil 0)) (.nil 0))) (.seq (.seq (.reg (.p 0 0 (.p 1 0 (.p 2 0 (.p 3 0 (.done 0)))))) (.seq (.reg (.p 0 0 (.p 1 0 (.p 2 0 (.p 3 0 (.p 4 0 (.done 0))))))) (.cond false (.seq (.reg (.p 0 0 (.p 1 0 (.p 2 0 (.done 0))))) (.nil 0)) (.nil 0)))) (.seq (.reg (.p 0 0 (.p 1 0 (.done 0)))) (.nil 0)))))))
theorem Sh.ref1_Mul_eq (a : Int) (b : Int) (w : World) (R : Value → World → Prop) : Sh.ref1_Mul a b w R = Vc.vcFn Try.prog tab okF Try.f57 Sh.ref1_Mul_h [.int .i64 a, .int .i64 b] w R := by kernel_rfl
theorem Sh.ref1_Mul_calls (a : Int) (b : Int) {w : World} {R : Value → World → Prop} (h : Sh.ref1_Mul a b w R) : Calls Try.prog 57 #[.int .i64 a, .int .i64 b] w fun e w' => ∃ v, e = .returned v ∧ R v w' :=
  Vc.fn_calls mixed tabOk okF_ok Try.func57 (by kernel_rfl) (by kernel_rfl) (by rw [← Sh.ref1_Mul_eq a b]; exact h)

def Sh.ref1_Add (a : Int) (b : Int) (w : World) (R : Value → World → Prop) : Prop :=
  -- umlautref1.go:17
  -- umlautref1.go:18
  ((decide (b > (0 : Int))) = true → (decide (b > (0 : Int))) = true) ∧ (
  ((decide (b > (0 : Int))) = true → (decide (b > (0 : Int))) = true) ∧ (
  ((decide (b > (0 : Int))) = true → (decide (b > (0 : Int))) = true) ∧ (
  ((decide (b > (0 : Int))) = true → (decide (b > (0 : Int))) = true) ∧ (
  ((!((decide (b > (0 : Int))) && (decide (a > (IntKind.i64.wrap ((9223372036854775807 : Int) - b)))))) = true → (!((decide (b > (0 : Int))) && (decide (a > (IntKind.i64.wrap ((9223372036854775807 : Int) - b)))))) = true) ∧ (
  ((!((decide (b > (0 : Int))) && (decide (a > (IntKind.i64.wrap ((9223372036854775807 : Int) - b)))))) = true → (!((decide (b > (0 : Int))) && (decide (a > (IntKind.i64.wrap ((9223372036854775807 : Int) - b)))))) = true) ∧ (
  (((!((decide (b > (0 : Int))) && (decide (a > (IntKind.i64.wrap ((9223372036854775807 : Int) - b)))))) && (decide (b < (0 : Int)))) = true → ((!((decide (b > (0 : Int))) && (decide (a > (IntKind.i64.wrap ((9223372036854775807 : Int) - b)))))) && (decide (b < (0 : Int)))) = true) ∧ (
  (((!((decide (b > (0 : Int))) && (decide (a > (IntKind.i64.wrap ((9223372036854775807 : Int) - b)))))) && (decide (b < (0 : Int)))) = true → ((!((decide (b > (0 : Int))) && (decide (a > (IntKind.i64.wrap ((9223372036854775807 : Int) - b)))))) && (decide (b < (0 : Int)))) = true) ∧ (
  (((!((decide (b > (0 : Int))) && (decide (a > (IntKind.i64.wrap ((9223372036854775807 : Int) - b)))))) && (decide (b < (0 : Int)))) = true → ((!((decide (b > (0 : Int))) && (decide (a > (IntKind.i64.wrap ((9223372036854775807 : Int) - b)))))) && (decide (b < (0 : Int)))) = true) ∧ (
  ((!((decide (b > (0 : Int))) && (decide (a > (IntKind.i64.wrap ((9223372036854775807 : Int) - b)))))) = true → (!((decide (b > (0 : Int))) && (decide (a > (IntKind.i64.wrap ((9223372036854775807 : Int) - b)))))) = true) ∧ (
  ((!((decide (b > (0 : Int))) && (decide (a > (IntKind.i64.wrap ((9223372036854775807 : Int) - b)))))) = true → (decide (b < (0 : Int))) = true → ((!((decide (b > (0 : Int))) && (decide (a > (IntKind.i64.wrap ((9223372036854775807 : Int) - b)))))) && (decide (b < (0 : Int)))) = true) ∧ (
  (((decide (b > (0 : Int))) && (decide (a > (IntKind.i64.wrap ((9223372036854775807 : Int) - b))))) = false → (!((decide (b > (0 : Int))) && (decide (a > (IntKind.i64.wrap ((9223372036854775807 : Int) - b)))))) = true) ∧ (
  (
   (((decide (b > (0 : Int))) && (decide (a > (IntKind.i64.wrap ((9223372036854775807 : Int) - b))))) || ((decide (b < (0 : Int))) && (decide (a < (IntKind.i64.wrap ((-9223372036854775808 : Int) - b)))))) = true → (
   -- umlautref1.go:19
   R (.tuple #[.int .i64 (0 : Int), .int .i64 (17 : Int)]) w))
  ∧ (
   (((decide (b > (0 : Int))) && (decide (a > (IntKind.i64.wrap ((9223372036854775807 : Int) - b))))) || ((decide (b < (0 : Int))) && (decide (a < (IntKind.i64.wrap ((-9223372036854775808 : Int) - b)))))) = false → (
   -- umlautref1.go:21
   R (.tuple #[.int .i64 (IntKind.i64.wrap (a + b)), .int .i64 (0 : Int)]) w))))))))))))))
def Sh.ref1_Add_h : Vc.H := (.seq (.reg (.p 0 0 (.p 1 0 (.done 0)))) (.seq (.seq (.reg (.p 0 0 (.p 1 0 (.p 2 0 (.p 3 0 (.p 4 0 (.p 5 0 (.p 6 0 (.p 7 0 (.p 8 0 (.p 9 0 (.p 10 0 (.p 11 0 (.p 12 0 (.p 13 0 (.p 14 0 (.p 15 0 (.p 16 0 (.p 17 0 (.done 0)))))))))))))))))))) (.cond false (.seq (.reg (.p 0 0 (.p 1 0 (.done 0)))) (.nil 0)) (.nil 0))) (.seq (.reg (.p 0 0 (.p 1 0 (.p 2 0 (.p 3 0 (.p 4 0 (.done 0))))))) (.nil 0))))
theorem Sh.ref1_Add_eq (a : Int) (b : Int) (w : World) (R : Value → World → Prop) : Sh.ref1_Add a b w R = Vc.vcFn Try.prog tab okF Try.f58 Sh.ref1_Add_h [.int .i64 a, .int .i64 b] w R := by kernel_rfl
theorem Sh.ref1_Add_calls (a : Int) (b : Int) {w : World} {R : Value → World → Prop} (h : Sh.ref1_Add a b w R) : Calls Try.prog 58 #[.int .i64 a, .int .i64 b] w fun e w' => ∃ v, e = .returned v ∧ R v w' :=
  Vc.fn_calls mixed tabOk okF_ok Try.func58 (by kernel_rfl) (by kernel_rfl) (by rw [← Sh.ref1_Add_eq a b]; exact h)

def Sh.ref1_Neg (a : Int) (w : World) (R : Value → World → Prop) : Prop :=
  -- umlautref1.go:33
  -- umlautref1.go:33
  Calls Try.prog 61 #[.int .i64 (0 : Int), .int .i64 a] w fun (e : Ending) (w_1 : World) => (
  ∃ r_Suba : Int,
  ∃ r_Subb : Int,
  e = .returned (.tuple #[.int .i64 r_Suba, .int .i64 r_Subb]) ∧ (
  R (.tuple #[.int .i64 r_Suba, .int .i64 r_Subb]) w_1))
def Sh.ref1_Neg_h : Vc.H := (.seq (.reg (.p 0 0 (.p 1 0 (.done 0)))) (.seq (.reg (.p 0 0 (.o 1 0 (.p 2 0 (.p 3 0 (.p 4 0 (.p 5 0 (.done 0)))))))) (.nil 0)))
theorem Sh.ref1_Neg_eq (a : Int) (w : World) (R : Value → World → Prop) : Sh.ref1_Neg a w R = Vc.vcFn Try.prog tab okF Try.f60 Sh.ref1_Neg_h [.int .i64 a] w R := by kernel_rfl
theorem Sh.ref1_Neg_calls (a : Int) {w : World} {R : Value → World → Prop} (h : Sh.ref1_Neg a w R) : Calls Try.prog 60 #[.int .i64 a] w fun e w' => ∃ v, e = .returned v ∧ R v w' :=
  Vc.fn_calls mixed tabOk okF_ok Try.func60 (by kernel_rfl) (by kernel_rfl) (by rw [← Sh.ref1_Neg_eq a]; exact h)

def Sh.ref1_Sub (a : Int) (b : Int) (w : World) (R : Value → World → Prop) : Prop :=
  -- umlautref1.go:25
  -- umlautref1.go:26
  ((decide (b < (0 : Int))) = true → (decide (b < (0 : Int))) = true) ∧ (
  ((decide (b < (0 : Int))) = true → (decide (b < (0 : Int))) = true) ∧ (
  ((decide (b < (0 : Int))) = true → (decide (b < (0 : Int))) = true) ∧ (
  ((decide (b < (0 : Int))) = true → (decide (b < (0 : Int))) = true) ∧ (
  ((!((decide (b < (0 : Int))) && (decide (a > (IntKind.i64.wrap ((9223372036854775807 : Int) + b)))))) = true → (!((decide (b < (0 : Int))) && (decide (a > (IntKind.i64.wrap ((9223372036854775807 : Int) + b)))))) = true) ∧ (
  ((!((decide (b < (0 : Int))) && (decide (a > (IntKind.i64.wrap ((9223372036854775807 : Int) + b)))))) = true → (!((decide (b < (0 : Int))) && (decide (a > (IntKind.i64.wrap ((9223372036854775807 : Int) + b)))))) = true) ∧ (
  (((!((decide (b < (0 : Int))) && (decide (a > (IntKind.i64.wrap ((9223372036854775807 : Int) + b)))))) && (decide (b > (0 : Int)))) = true → ((!((decide (b < (0 : Int))) && (decide (a > (IntKind.i64.wrap ((9223372036854775807 : Int) + b)))))) && (decide (b > (0 : Int)))) = true) ∧ (
  (((!((decide (b < (0 : Int))) && (decide (a > (IntKind.i64.wrap ((9223372036854775807 : Int) + b)))))) && (decide (b > (0 : Int)))) = true → ((!((decide (b < (0 : Int))) && (decide (a > (IntKind.i64.wrap ((9223372036854775807 : Int) + b)))))) && (decide (b > (0 : Int)))) = true) ∧ (
  (((!((decide (b < (0 : Int))) && (decide (a > (IntKind.i64.wrap ((9223372036854775807 : Int) + b)))))) && (decide (b > (0 : Int)))) = true → ((!((decide (b < (0 : Int))) && (decide (a > (IntKind.i64.wrap ((9223372036854775807 : Int) + b)))))) && (decide (b > (0 : Int)))) = true) ∧ (
  ((!((decide (b < (0 : Int))) && (decide (a > (IntKind.i64.wrap ((9223372036854775807 : Int) + b)))))) = true → (!((decide (b < (0 : Int))) && (decide (a > (IntKind.i64.wrap ((9223372036854775807 : Int) + b)))))) = true) ∧ (
  ((!((decide (b < (0 : Int))) && (decide (a > (IntKind.i64.wrap ((9223372036854775807 : Int) + b)))))) = true → (decide (b > (0 : Int))) = true → ((!((decide (b < (0 : Int))) && (decide (a > (IntKind.i64.wrap ((9223372036854775807 : Int) + b)))))) && (decide (b > (0 : Int)))) = true) ∧ (
  (((decide (b < (0 : Int))) && (decide (a > (IntKind.i64.wrap ((9223372036854775807 : Int) + b))))) = false → (!((decide (b < (0 : Int))) && (decide (a > (IntKind.i64.wrap ((9223372036854775807 : Int) + b)))))) = true) ∧ (
  (
   (((decide (b < (0 : Int))) && (decide (a > (IntKind.i64.wrap ((9223372036854775807 : Int) + b))))) || ((decide (b > (0 : Int))) && (decide (a < (IntKind.i64.wrap ((-9223372036854775808 : Int) + b)))))) = true → (
   -- umlautref1.go:27
   R (.tuple #[.int .i64 (0 : Int), .int .i64 (17 : Int)]) w))
  ∧ (
   (((decide (b < (0 : Int))) && (decide (a > (IntKind.i64.wrap ((9223372036854775807 : Int) + b))))) || ((decide (b > (0 : Int))) && (decide (a < (IntKind.i64.wrap ((-9223372036854775808 : Int) + b)))))) = false → (
   -- umlautref1.go:29
   R (.tuple #[.int .i64 (IntKind.i64.wrap (a - b)), .int .i64 (0 : Int)]) w))))))))))))))
def Sh.ref1_Sub_h : Vc.H := (.seq (.reg (.p 0 0 (.p 1 0 (.done 0)))) (.seq (.seq (.reg (.p 0 0 (.p 1 0 (.p 2 0 (.p 3 0 (.p 4 0 (.p 5 0 (.p 6 0 (.p 7 0 (.p 8 0 (.p 9 0 (.p 10 0 (.p 11 0 (.p 12 0 (.p 13 0 (.p 14 0 (.p 15 0 (.p 16 0 (.p 17 0 (.done 0)))))))))))))))))))) (.cond false (.seq (.reg (.p 0 0 (.p 1 0 (.done 0)))) (.nil 0)) (.nil 0))) (.seq (.reg (.p 0 0 (.p 1 0 (.p 2 0 (.p 3 0 (.p 4 0 (.done 0))))))) (.nil 0))))
theorem Sh.ref1_Sub_eq (a : Int) (b : Int) (w : World) (R : Value → World → Prop) : Sh.ref1_Sub a b w R = Vc.vcFn Try.prog tab okF Try.f61 Sh.ref1_Sub_h [.int .i64 a, .int .i64 b] w R := by kernel_rfl
theorem Sh.ref1_Sub_calls (a : Int) (b : Int) {w : World} {R : Value → World → Prop} (h : Sh.ref1_Sub a b w R) : Calls Try.prog 61 #[.int .i64 a, .int .i64 b] w fun e w' => ∃ v, e = .returned v ∧ R v w' :=
  Vc.fn_calls mixed tabOk okF_ok Try.func61 (by kernel_rfl) (by kernel_rfl) (by rw [← Sh.ref1_Sub_eq a b]; exact h)

end Go.Proofs.Ytjlkgedcpmoehaa
