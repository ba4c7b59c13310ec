/- The verification conditions of functions of the program, as Go.Vc reckons them: by gen.py. -/
import Derived.Test.YtjlkgedcpmoehaaTab
set_option linter.unusedVariables false
set_option maxRecDepth 100000
namespace Go.Proofs.Ytjlkgedcpmoehaa
open Go
open Go.Proofs

def Sh.ref17_Expr (s : ByteArray) (w : World) (R : Value → World → Prop) : Prop :=
  -- umlautref17.go:478
  ∀ b2 : Nat,
  w.heap.size ≤ b2 → (
  -- umlautref17.go:479
  ∀ w_1 : World,
  Vc.Fr (fun k => k = b2) w w_1 → (
  b2 < w_1.heap.size → (
  Calls Try.prog 29 #[.string s] w_1 fun (e : Ending) (w_2 : World) => (
  ∃ r_begina : Option Addr,
  ∃ (r_beginb_L : Option Addr) (r_beginb_L_len r_beginb_L_cap : Nat),
  ∃ r_beginb_At : Int,
  ∃ r_beginb_E : Int,
  e = .returned (.tuple #[.pointer r_begina, .agg #[.slice r_beginb_L r_beginb_L_len r_beginb_L_cap, .int .i64 r_beginb_At, .int .i64 r_beginb_E]]) ∧ (
  (b2 < w_1.heap.size → w_2.heap[b2]? = w_1.heap[b2]?) ∧ (
  ∀ b_l : Nat,
  w_2.heap.size ≤ b_l → (
  b_l ≠ b2 → (
  -- umlautref17.go:480
  (
   (r_beginb_E != (0 : Int)) = true → (
   -- umlautref17.go:481
   ∀ w_3 : World,
   Vc.Fr (fun k => k = b_l ∨ k = b2) w_2 w_3 → (
   b_l < w_3.heap.size → (
   b2 < w_3.heap.size → (
   R (.agg #[.int .i64 (0 : Int), .int .i64 (0 : Int), .string (⟨#[]⟩ : ByteArray), .string (⟨#[]⟩ : ByteArray), .int .i64 (0 : Int), .slice none 0 0, .int .i64 (0 : Int), .string (⟨#[]⟩ : ByteArray), .string (⟨#[]⟩ : ByteArray), .string (⟨#[]⟩ : ByteArray), .int .i64 (0 : Int), .int .i64 (0 : Int), .slice none 0 0, .bool false, .bool false, .slice none 0 0, .slice none 0 0, .slice none 0 0, .slice none 0 0, .pointer none, .pointer none, .slice none 0 0, .slice none 0 0, .int .i64 (0 : Int), .int .i64 (0 : Int), .int .i64 r_beginb_At, .int .i64 r_beginb_E]) w_3)))))
  ∧ (
   (r_beginb_E != (0 : Int)) = false → (
   -- umlautref17.go:483
   ∀ w_4 : World,
   Vc.Fr (fun k => k = b_l ∨ k = b2) w_2 w_4 → (
   b_l < w_4.heap.size → (
   b2 < w_4.heap.size → (
   Calls Try.prog 30 #[.pointer r_begina, .int .i64 (1 : Int)] w_4 fun (e : Ending) (w_5 : World) => (
   ∃ r_Expr_Kind : Int,
   ∃ r_Expr_Op : Int,
   ∃ r_Expr_S : ByteArray,
   ∃ r_Expr_T : ByteArray,
   ∃ r_Expr_N : Int,
   ∃ (r_Expr_L : Option Addr) (r_Expr_L_len r_Expr_L_cap : Nat),
   e = .returned (.agg #[.int .i64 r_Expr_Kind, .int .i64 r_Expr_Op, .string r_Expr_S, .string r_Expr_T, .int .i64 r_Expr_N, .slice r_Expr_L r_Expr_L_len r_Expr_L_cap]) ∧ (
   (b_l < w_4.heap.size → w_5.heap[b_l]? = w_4.heap[b_l]?) ∧ (
   (b2 < w_4.heap.size → w_5.heap[b2]? = w_4.heap[b2]?) ∧ (
   ∀ b_n : Nat,
   w_5.heap.size ≤ b_n → (
   b_n ≠ b_l → (
   b_n ≠ b2 → (
   -- umlautref17.go:484 (draws)
   ∀ w_6 : World,
   Vc.Fr (fun k => k = b_n ∨ k = b_l ∨ k = b2) w_5 w_6 → (
   b_n < w_6.heap.size → (
   b_l < w_6.heap.size → (
   b2 < w_6.heap.size → (
   ∃ p : Addr,
   r_begina = some p ∧ (
   ∃ t24 : Int,
   w_6.cell? (p.add 1) = some (.int .i64 t24) ∧ (
   ∃ p_1 : Addr,
   r_begina = some p_1 ∧ (
   ∃ (t28 : Option Addr) (t28_len t28_cap : Nat),
   w_6.cell? p_1 = some (.slice t28 t28_len t28_cap) ∧ (
   (
    (decide (t24 < ((t28_len : Nat) : Int))) = true → (
    -- umlautref17.go:485
    Calls Try.prog 31 #[.pointer r_begina, .int .i64 (10 : Int)] w_6 fun (e : Ending) (w_7 : World) => (
    e = .returned (.tuple #[]) ∧ (
    (b_n < w_6.heap.size → w_7.heap[b_n]? = w_6.heap[b_n]?) ∧ (
    (b_l < w_6.heap.size → w_7.heap[b_l]? = w_6.heap[b_l]?) ∧ (
    (b2 < w_6.heap.size → w_7.heap[b2]? = w_6.heap[b2]?) ∧ (
    -- umlautref17.go:487
    ∃ p_2 : Addr,
    r_begina = some p_2 ∧ (
    ∃ t36 : Int,
    w_7.cell? (p_2.add 2) = some (.int .i64 t36) ∧ (
    (
     (t36 != (0 : Int)) = true → (
     -- umlautref17.go:488 (draws)
     ∀ w_8 : World,
     Vc.Fr (fun k => k = b_n ∨ k = b_l ∨ k = b2) w_7 w_8 → (
     b_n < w_8.heap.size → (
     b_l < w_8.heap.size → (
     b2 < w_8.heap.size → (
     ∃ p_3 : Addr,
     r_begina = some p_3 ∧ (
     ∃ t41 : Int,
     w_8.cell? (p_3.add 3) = some (.int .i64 t41) ∧ (
     (p_3.add 3).block ≠ b2 ∧ (
     ∃ p_4 : Addr,
     r_begina = some p_4 ∧ (
     ∃ t45 : Int,
     w_8.cell? (p_4.add 2) = some (.int .i64 t45) ∧ (
     (p_4.add 2).block ≠ b2 ∧ (
     ∀ w_9 : World,
     Vc.Fr (fun k => k = b_n ∨ k = b_l ∨ k = b2) w_8 w_9 → (
     b_n < w_9.heap.size → (
     b_l < w_9.heap.size → (
     b2 < w_9.heap.size → (
     R (.agg #[.int .i64 (0 : Int), .int .i64 (0 : Int), .string (⟨#[]⟩ : ByteArray), .string (⟨#[]⟩ : ByteArray), .int .i64 (0 : Int), .slice none 0 0, .int .i64 (0 : Int), .string (⟨#[]⟩ : ByteArray), .string (⟨#[]⟩ : ByteArray), .string (⟨#[]⟩ : ByteArray), .int .i64 (0 : Int), .int .i64 (0 : Int), .slice none 0 0, .bool false, .bool false, .slice none 0 0, .slice none 0 0, .slice none 0 0, .slice none 0 0, .pointer none, .pointer none, .slice none 0 0, .slice none 0 0, .int .i64 (0 : Int), .int .i64 (0 : Int), .int .i64 t41, .int .i64 t45]) w_9))))))))))))))))
    ∧ (
     (t36 != (0 : Int)) = false → (
     -- umlautref17.go:490
     ∀ w_10 : World,
     Vc.Fr (fun k => k = b_n ∨ k = b_l ∨ k = b2) w_7 w_10 → (
     b_n < w_10.heap.size → (
     b_l < w_10.heap.size → (
     b2 < w_10.heap.size → (
     R (.agg #[.int .i64 r_Expr_Kind, .int .i64 r_Expr_Op, .string r_Expr_S, .string r_Expr_T, .int .i64 r_Expr_N, .slice r_Expr_L r_Expr_L_len r_Expr_L_cap, .int .i64 (0 : Int), .string (⟨#[]⟩ : ByteArray), .string (⟨#[]⟩ : ByteArray), .string (⟨#[]⟩ : ByteArray), .int .i64 (0 : Int), .int .i64 (0 : Int), .slice none 0 0, .bool false, .bool false, .slice none 0 0, .slice none 0 0, .slice none 0 0, .slice none 0 0, .pointer none, .pointer none, .slice none 0 0, .slice none 0 0, .int .i64 (0 : Int), .int .i64 (0 : Int), .int .i64 (0 : Int), .int .i64 (0 : Int)]) w_10)))))))))))))))
   ∧ (
    (decide (t24 < ((t28_len : Nat) : Int))) = false → (
    -- umlautref17.go:487
    ∃ p_5 : Addr,
    r_begina = some p_5 ∧ (
    ∃ t36_1 : Int,
    w_6.cell? (p_5.add 2) = some (.int .i64 t36_1) ∧ (
    (
     (t36_1 != (0 : Int)) = true → (
     -- umlautref17.go:488 (draws)
     ∀ w_11 : World,
     Vc.Fr (fun k => k = b_n ∨ k = b_l ∨ k = b2) w_6 w_11 → (
     b_n < w_11.heap.size → (
     b_l < w_11.heap.size → (
     b2 < w_11.heap.size → (
     ∃ p_6 : Addr,
     r_begina = some p_6 ∧ (
     ∃ t41_1 : Int,
     w_11.cell? (p_6.add 3) = some (.int .i64 t41_1) ∧ (
     (p_6.add 3).block ≠ b2 ∧ (
     ∃ p_7 : Addr,
     r_begina = some p_7 ∧ (
     ∃ t45_1 : Int,
     w_11.cell? (p_7.add 2) = some (.int .i64 t45_1) ∧ (
     (p_7.add 2).block ≠ b2 ∧ (
     ∀ w_12 : World,
     Vc.Fr (fun k => k = b_n ∨ k = b_l ∨ k = b2) w_11 w_12 → (
     b_n < w_12.heap.size → (
     b_l < w_12.heap.size → (
     b2 < w_12.heap.size → (
     R (.agg #[.int .i64 (0 : Int), .int .i64 (0 : Int), .string (⟨#[]⟩ : ByteArray), .string (⟨#[]⟩ : ByteArray), .int .i64 (0 : Int), .slice none 0 0, .int .i64 (0 : Int), .string (⟨#[]⟩ : ByteArray), .string (⟨#[]⟩ : ByteArray), .string (⟨#[]⟩ : ByteArray), .int .i64 (0 : Int), .int .i64 (0 : Int), .slice none 0 0, .bool false, .bool false, .slice none 0 0, .slice none 0 0, .slice none 0 0, .slice none 0 0, .pointer none, .pointer none, .slice none 0 0, .slice none 0 0, .int .i64 (0 : Int), .int .i64 (0 : Int), .int .i64 t41_1, .int .i64 t45_1]) w_12))))))))))))))))
    ∧ (
     (t36_1 != (0 : Int)) = false → (
     -- umlautref17.go:490
     ∀ w_13 : World,
     Vc.Fr (fun k => k = b_n ∨ k = b_l ∨ k = b2) w_6 w_13 → (
     b_n < w_13.heap.size → (
     b_l < w_13.heap.size → (
     b2 < w_13.heap.size → (
     R (.agg #[.int .i64 r_Expr_Kind, .int .i64 r_Expr_Op, .string r_Expr_S, .string r_Expr_T, .int .i64 r_Expr_N, .slice r_Expr_L r_Expr_L_len r_Expr_L_cap, .int .i64 (0 : Int), .string (⟨#[]⟩ : ByteArray), .string (⟨#[]⟩ : ByteArray), .string (⟨#[]⟩ : ByteArray), .int .i64 (0 : Int), .int .i64 (0 : Int), .slice none 0 0, .bool false, .bool false, .slice none 0 0, .slice none 0 0, .slice none 0 0, .slice none 0 0, .pointer none, .pointer none, .slice none 0 0, .slice none 0 0, .int .i64 (0 : Int), .int .i64 (0 : Int), .int .i64 (0 : Int), .int .i64 (0 : Int)]) w_13))))))))))))))))))))))))))))))))))))))
def Sh.ref17_Expr_h : Vc.H := (.seq (.reg (.o 0 1 (.done 0))) (.seq (.reg (.p 0 0 (.o 1 0 (.p 2 0 (.p 3 0 (.p 4 0 (.o 5 1 (.p 6 0 (.o 7 0 (.done 0)))))))))) (.seq (.seq (.reg (.p 0 0 (.p 1 0 (.p 2 0 (.done 0))))) (.cond false (.seq (.reg (.p 0 0 (.p 1 0 (.p 2 0 (.p 3 0 (.p 4 0 (.o 5 0 (.done 0)))))))) (.nil 0)) (.nil 0))) (.seq (.reg (.p 0 0 (.o 1 0 (.o 2 1 (.o 3 0 (.done 0)))))) (.seq (.seq (.draw false [] (.p 0 0 (.p 1 1 (.p 2 0 (.l 3 (.p 4 0 (.p 5 1 (.p 6 0 (.l 7 (.p 8 0 (.p 9 0 (.done 0)))))))))))) (.cond false (.reg (.p 0 0 (.o 1 0 (.done 0)))) (.nil 0))) (.seq (.seq (.reg (.p 0 0 (.p 1 1 (.p 2 0 (.o 3 0 (.p 4 0 (.done 0))))))) (.cond false (.seq (.draw false [2] (.p 0 0 (.p 1 1 (.p 2 0 (.l 3 (.p 4 0 (.p 5 1 (.p 6 0 (.l 7 (.p 8 0 (.o 9 0 (.done 0)))))))))))) (.nil 0)) (.nil 0))) (.seq (.reg (.p 0 0 (.p 1 0 (.o 2 0 (.done 0))))) (.nil 0))))))))
theorem Sh.ref17_Expr_eq (s : ByteArray) (w : World) (R : Value → World → Prop) : Sh.ref17_Expr s w R = Vc.vcFn Try.prog tab okF Try.f17 Sh.ref17_Expr_h [.string s] w R := by kernel_rfl
theorem Sh.ref17_Expr_calls (s : ByteArray) {w : World} {R : Value → World → Prop} (h : Sh.ref17_Expr s w R) : Calls Try.prog 17 #[.string s] w fun e w' => ∃ v, e = .returned v ∧ R v w' :=
  Vc.fn_calls mixed tabOk okF_ok Try.func17 (by kernel_rfl) (by kernel_rfl) (by rw [← Sh.ref17_Expr_eq s]; exact h)

def Sh.ref17_begin (s : ByteArray) (w : World) (R : Value → World → Prop) : Prop :=
  -- umlautref17.go:472
  ∀ b3 : Nat,
  w.heap.size ≤ b3 → (
  -- umlautref17.go:473
  ∀ w_1 : World,
  Vc.Fr (fun k => k = b3) w w_1 → (
  b3 < w_1.heap.size → (
  Calls Try.prog 35 #[.string s] w_1 fun (e : Ending) (w_2 : World) => (
  ∃ (r_Tokens_L : Option Addr) (r_Tokens_L_len r_Tokens_L_cap : Nat),
  ∃ r_Tokens_At : Int,
  ∃ r_Tokens_E : Int,
  e = .returned (.agg #[.slice r_Tokens_L r_Tokens_L_len r_Tokens_L_cap, .int .i64 r_Tokens_At, .int .i64 r_Tokens_E]) ∧ (
  (b3 < w_1.heap.size → w_2.heap[b3]? = w_1.heap[b3]?) ∧ (
  ∀ b_l : Nat,
  w_2.heap.size ≤ b_l → (
  b_l ≠ b3 → (
  -- umlautref17.go:474 (draws)
  ∀ w_3 : World,
  Vc.Fr (fun k => k = b_l ∨ k = b3) w_2 w_3 → (
  b_l < w_3.heap.size → (
  b3 < w_3.heap.size → (
  ∀ w_4 : World,
  w_4 = w_3.alloc (.cells #[.slice r_Tokens_L r_Tokens_L_len r_Tokens_L_cap, .int .i64 (0 : Int), .int .i64 (0 : Int), .int .i64 (0 : Int), .int .i64 (0 : Int), .int .i64 (s.size : Int)] 74) → (
  Vc.Fr (fun k => k = b3) w_3 w_4 ∧ (
  ∀ w_5 : World,
  Vc.Fr (fun k => k = b_l ∨ k = b3) w_4 w_5 → (
  b_l < w_5.heap.size → (
  b3 < w_5.heap.size → (
  R (.tuple #[.pointer (some (⟨w_3.heap.size, 0, none⟩ : Addr)), .agg #[.slice r_Tokens_L r_Tokens_L_len r_Tokens_L_cap, .int .i64 r_Tokens_At, .int .i64 r_Tokens_E]]) w_5))))))))))))))))
def Sh.ref17_begin_h : Vc.H := (.seq (.reg (.p 0 0 (.o 1 1 (.done 0)))) (.seq (.reg (.p 0 0 (.o 1 0 (.o 2 1 (.o 3 0 (.done 0)))))) (.seq (.draw false [3] (.p 0 0 (.p 1 0 (.p 2 0 (.p 3 0 (.p 4 0 (.p 6 0 (.o 5 0 (.p 7 0 (.o 8 0 (.done 0))))))))))) (.nil 0))))
theorem Sh.ref17_begin_eq (s : ByteArray) (w : World) (R : Value → World → Prop) : Sh.ref17_begin s w R = Vc.vcFn Try.prog tab okF Try.f29 Sh.ref17_begin_h [.string s] w R := by kernel_rfl
theorem Sh.ref17_begin_calls (s : ByteArray) {w : World} {R : Value → World → Prop} (h : Sh.ref17_begin s w R) : Calls Try.prog 29 #[.string s] w fun e w' => ∃ v, e = .returned v ∧ R v w' :=
  Vc.fn_calls mixed tabOk okF_ok Try.func29 (by kernel_rfl) (by kernel_rfl) (by rw [← Sh.ref17_begin_eq s]; exact h)

def Sh.ref17_Parser_Expr (p : Addr) (level : Int) (w : World) (R : Value → World → Prop) : Prop :=
  -- umlautref17.go:259
  ∀ b4 : Nat,
  w.heap.size ≤ b4 → (
  -- umlautref17.go:260
  ∀ w_1 : World,
  Vc.Fr (fun k => k = b4) w w_1 → (
  b4 < w_1.heap.size → (
  ∃ t14 : Int,
  w_1.cell? (p.add 2) = some (.int .i64 t14) ∧ (
  (
   (t14 != (0 : Int)) = true → (
   -- umlautref17.go:261
   ∀ w_2 : World,
   Vc.Fr (fun k => k = b4) w_1 w_2 → (
   b4 < w_2.heap.size → (
   R (.agg #[.int .i64 (0 : Int), .int .i64 (0 : Int), .string (⟨#[]⟩ : ByteArray), .string (⟨#[]⟩ : ByteArray), .int .i64 (0 : Int), .slice none 0 0]) w_2))))
  ∧ (
   (t14 != (0 : Int)) = false → (
   -- umlautref17.go:263
   -- umlautref17.go:264
   (
    (level == (3 : Int)) = true → (
    -- umlautref17.go:265
    Calls Try.prog 36 #[.pointer (some p), .string (⟨#[78, 79, 84]⟩ : ByteArray)] w_1 fun (e : Ending) (w_3 : World) => (
    ∃ r_is : Bool,
    e = .returned (.bool r_is) ∧ (
    (b4 < w_1.heap.size → w_3.heap[b4]? = w_1.heap[b4]?) ∧ (
    (
     (!r_is) = true → (
     -- umlautref17.go:266
     Calls Try.prog 30 #[.pointer (some p), .int .i64 (4 : Int)] w_3 fun (e : Ending) (w_4 : World) => (
     ∃ r_Expr_Kind : Int,
     ∃ r_Expr_Op : Int,
     ∃ r_Expr_S : ByteArray,
     ∃ r_Expr_T : ByteArray,
     ∃ r_Expr_N : Int,
     ∃ (r_Expr_L : Option Addr) (r_Expr_L_len r_Expr_L_cap : Nat),
     e = .returned (.agg #[.int .i64 r_Expr_Kind, .int .i64 r_Expr_Op, .string r_Expr_S, .string r_Expr_T, .int .i64 r_Expr_N, .slice r_Expr_L r_Expr_L_len r_Expr_L_cap]) ∧ (
     (b4 < w_3.heap.size → w_4.heap[b4]? = w_3.heap[b4]?) ∧ (
     ∀ w_5 : World,
     Vc.Fr (fun k => k = b4) w_4 w_5 → (
     b4 < w_5.heap.size → (
     R (.agg #[.int .i64 r_Expr_Kind, .int .i64 r_Expr_Op, .string r_Expr_S, .string r_Expr_T, .int .i64 r_Expr_N, .slice r_Expr_L r_Expr_L_len r_Expr_L_cap]) w_5)))))))
    ∧ (
     (!r_is) = false → (
     -- umlautref17.go:268
     Calls Try.prog 37 #[.pointer (some p)] w_3 fun (e : Ending) (w_6 : World) => (
     ∃ r_in : Bool,
     e = .returned (.bool r_in) ∧ (
     (b4 < w_3.heap.size → w_6.heap[b4]? = w_3.heap[b4]?) ∧ (
     (
      (!r_in) = true → (
      -- umlautref17.go:269
      ∀ w_7 : World,
      Vc.Fr (fun k => k = b4) w_6 w_7 → (
      b4 < w_7.heap.size → (
      R (.agg #[.int .i64 (0 : Int), .int .i64 (0 : Int), .string (⟨#[]⟩ : ByteArray), .string (⟨#[]⟩ : ByteArray), .int .i64 (0 : Int), .slice none 0 0]) w_7))))
     ∧ (
      (!r_in) = false → (
      -- umlautref17.go:271
      ∃ t32 : Int,
      w_6.cell? (p.add 1) = some (.int .i64 t32) ∧ (
      (p.add 1).block ≠ b4 ∧ (
      (w_6.cell? (p.add 1)).isSome = true ∧ (
      w_6.frozen? (p.add 1) = false ∧ (
      -- umlautref17.go:272
      Calls Try.prog 30 #[.pointer (some p), .int .i64 (3 : Int)] (w_6.setCell (p.add 1) (.int .i64 (IntKind.i64.wrap (t32 + (1 : Int))))) fun (e : Ending) (w_8 : World) => (
      ∃ r_Expr_Kind_1 : Int,
      ∃ r_Expr_Op_1 : Int,
      ∃ r_Expr_S_1 : ByteArray,
      ∃ r_Expr_T_1 : ByteArray,
      ∃ r_Expr_N_1 : Int,
      ∃ (r_Expr_L_1 : Option Addr) (r_Expr_L_len_1 r_Expr_L_cap_1 : Nat),
      e = .returned (.agg #[.int .i64 r_Expr_Kind_1, .int .i64 r_Expr_Op_1, .string r_Expr_S_1, .string r_Expr_T_1, .int .i64 r_Expr_N_1, .slice r_Expr_L_1 r_Expr_L_len_1 r_Expr_L_cap_1]) ∧ (
      (b4 < (w_6.setCell (p.add 1) (.int .i64 (IntKind.i64.wrap (t32 + (1 : Int))))).heap.size → w_8.heap[b4]? = (w_6.setCell (p.add 1) (.int .i64 (IntKind.i64.wrap (t32 + (1 : Int))))).heap[b4]?) ∧ (
      ∀ w_9 : World,
      w_9 = w_8.alloc (.cells #[.int .i64 r_Expr_Kind_1, .int .i64 r_Expr_Op_1, .string r_Expr_S_1, .string r_Expr_T_1, .int .i64 r_Expr_N_1, .slice r_Expr_L_1 r_Expr_L_len_1 r_Expr_L_cap_1] 24) → (
      ∀ b_n : Nat,
      w_9.heap.size ≤ b_n → (
      b_n ≠ b4 → (
      -- umlautref17.go:273
      ∀ w_10 : World,
      Vc.Fr (fun k => k = b_n ∨ k = b4) w_9 w_10 → (
      b_n < w_10.heap.size → (
      b4 < w_10.heap.size → (
      ∃ t43 : Int,
      w_10.cell? (p.add 4) = some (.int .i64 t43) ∧ (
      (p.add 4).block ≠ b_n ∧ (
      (p.add 4).block ≠ b4 ∧ (
      (w_10.cell? (p.add 4)).isSome = true ∧ (
      w_10.frozen? (p.add 4) = false ∧ (
      -- umlautref17.go:274
      ∀ w_11 : World,
      Vc.Fr (fun k => k = b_n ∨ k = b4) (w_10.setCell (p.add 4) (.int .i64 (IntKind.i64.wrap (t43 - (1 : Int))))) w_11 → (
      b_n < w_11.heap.size → (
      b4 < w_11.heap.size → (
      R (.agg #[.int .i64 (5 : Int), .int .i64 (21 : Int), .string (⟨#[]⟩ : ByteArray), .string (⟨#[]⟩ : ByteArray), .int .i64 (0 : Int), .slice (some (⟨w_8.heap.size, 0, none⟩ : Addr)) 1 1]) w_11)))))))))))))))))))))))))))))))))
   ∧ (
    (level == (3 : Int)) = false → (
    -- umlautref17.go:275
    (
     (level == (4 : Int)) = true → (
     -- umlautref17.go:276
     Calls Try.prog 30 #[.pointer (some p), .int .i64 (5 : Int)] w_1 fun (e : Ending) (w_12 : World) => (
     ∃ r_Expr_Kind_2 : Int,
     ∃ r_Expr_Op_2 : Int,
     ∃ r_Expr_S_2 : ByteArray,
     ∃ r_Expr_T_2 : ByteArray,
     ∃ r_Expr_N_2 : Int,
     ∃ (r_Expr_L_2 : Option Addr) (r_Expr_L_len_2 r_Expr_L_cap_2 : Nat),
     e = .returned (.agg #[.int .i64 r_Expr_Kind_2, .int .i64 r_Expr_Op_2, .string r_Expr_S_2, .string r_Expr_T_2, .int .i64 r_Expr_N_2, .slice r_Expr_L_2 r_Expr_L_len_2 r_Expr_L_cap_2]) ∧ (
     (b4 < w_1.heap.size → w_12.heap[b4]? = w_1.heap[b4]?) ∧ (
     Calls Try.prog 38 #[.pointer (some p), .agg #[.int .i64 r_Expr_Kind_2, .int .i64 r_Expr_Op_2, .string r_Expr_S_2, .string r_Expr_T_2, .int .i64 r_Expr_N_2, .slice r_Expr_L_2 r_Expr_L_len_2 r_Expr_L_cap_2]] w_12 fun (e : Ending) (w_13 : World) => (
     ∃ r_compare_Kind : Int,
     ∃ r_compare_Op : Int,
     ∃ r_compare_S : ByteArray,
     ∃ r_compare_T : ByteArray,
     ∃ r_compare_N : Int,
     ∃ (r_compare_L : Option Addr) (r_compare_L_len r_compare_L_cap : Nat),
     e = .returned (.agg #[.int .i64 r_compare_Kind, .int .i64 r_compare_Op, .string r_compare_S, .string r_compare_T, .int .i64 r_compare_N, .slice r_compare_L r_compare_L_len r_compare_L_cap]) ∧ (
     (b4 < w_12.heap.size → w_13.heap[b4]? = w_12.heap[b4]?) ∧ (
     ∀ w_14 : World,
     Vc.Fr (fun k => k = b4) w_13 w_14 → (
     b4 < w_14.heap.size → (
     R (.agg #[.int .i64 r_compare_Kind, .int .i64 r_compare_Op, .string r_compare_S, .string r_compare_T, .int .i64 r_compare_N, .slice r_compare_L r_compare_L_len r_compare_L_cap]) w_14))))))))))
    ∧ (
     (level == (4 : Int)) = false → (
     -- umlautref17.go:277
     (
      (level == (10 : Int)) = true → (
      -- umlautref17.go:278
      Calls Try.prog 36 #[.pointer (some p), .string (⟨#[45]⟩ : ByteArray)] w_1 fun (e : Ending) (w_15 : World) => (
      ∃ r_is_1 : Bool,
      e = .returned (.bool r_is_1) ∧ (
      (b4 < w_1.heap.size → w_15.heap[b4]? = w_1.heap[b4]?) ∧ (
      (
       (!r_is_1) = true → (
       -- umlautref17.go:279
       Calls Try.prog 30 #[.pointer (some p), .int .i64 (11 : Int)] w_15 fun (e : Ending) (w_16 : World) => (
       ∃ r_Expr_Kind_3 : Int,
       ∃ r_Expr_Op_3 : Int,
       ∃ r_Expr_S_3 : ByteArray,
       ∃ r_Expr_T_3 : ByteArray,
       ∃ r_Expr_N_3 : Int,
       ∃ (r_Expr_L_3 : Option Addr) (r_Expr_L_len_3 r_Expr_L_cap_3 : Nat),
       e = .returned (.agg #[.int .i64 r_Expr_Kind_3, .int .i64 r_Expr_Op_3, .string r_Expr_S_3, .string r_Expr_T_3, .int .i64 r_Expr_N_3, .slice r_Expr_L_3 r_Expr_L_len_3 r_Expr_L_cap_3]) ∧ (
       (b4 < w_15.heap.size → w_16.heap[b4]? = w_15.heap[b4]?) ∧ (
       ∀ w_17 : World,
       Vc.Fr (fun k => k = b4) w_16 w_17 → (
       b4 < w_17.heap.size → (
       R (.agg #[.int .i64 r_Expr_Kind_3, .int .i64 r_Expr_Op_3, .string r_Expr_S_3, .string r_Expr_T_3, .int .i64 r_Expr_N_3, .slice r_Expr_L_3 r_Expr_L_len_3 r_Expr_L_cap_3]) w_17)))))))
      ∧ (
       (!r_is_1) = false → (
       -- umlautref17.go:281
       Calls Try.prog 37 #[.pointer (some p)] w_15 fun (e : Ending) (w_18 : World) => (
       ∃ r_in_1 : Bool,
       e = .returned (.bool r_in_1) ∧ (
       (b4 < w_15.heap.size → w_18.heap[b4]? = w_15.heap[b4]?) ∧ (
       (
        (!r_in_1) = true → (
        -- umlautref17.go:282
        ∀ w_19 : World,
        Vc.Fr (fun k => k = b4) w_18 w_19 → (
        b4 < w_19.heap.size → (
        R (.agg #[.int .i64 (0 : Int), .int .i64 (0 : Int), .string (⟨#[]⟩ : ByteArray), .string (⟨#[]⟩ : ByteArray), .int .i64 (0 : Int), .slice none 0 0]) w_19))))
       ∧ (
        (!r_in_1) = false → (
        -- umlautref17.go:284
        ∃ t68 : Int,
        w_18.cell? (p.add 1) = some (.int .i64 t68) ∧ (
        (p.add 1).block ≠ b4 ∧ (
        (w_18.cell? (p.add 1)).isSome = true ∧ (
        w_18.frozen? (p.add 1) = false ∧ (
        -- umlautref17.go:285
        Calls Try.prog 30 #[.pointer (some p), .int .i64 (10 : Int)] (w_18.setCell (p.add 1) (.int .i64 (IntKind.i64.wrap (t68 + (1 : Int))))) fun (e : Ending) (w_20 : World) => (
        ∃ r_Expr_Kind_4 : Int,
        ∃ r_Expr_Op_4 : Int,
        ∃ r_Expr_S_4 : ByteArray,
        ∃ r_Expr_T_4 : ByteArray,
        ∃ r_Expr_N_4 : Int,
        ∃ (r_Expr_L_4 : Option Addr) (r_Expr_L_len_4 r_Expr_L_cap_4 : Nat),
        e = .returned (.agg #[.int .i64 r_Expr_Kind_4, .int .i64 r_Expr_Op_4, .string r_Expr_S_4, .string r_Expr_T_4, .int .i64 r_Expr_N_4, .slice r_Expr_L_4 r_Expr_L_len_4 r_Expr_L_cap_4]) ∧ (
        (b4 < (w_18.setCell (p.add 1) (.int .i64 (IntKind.i64.wrap (t68 + (1 : Int))))).heap.size → w_20.heap[b4]? = (w_18.setCell (p.add 1) (.int .i64 (IntKind.i64.wrap (t68 + (1 : Int))))).heap[b4]?) ∧ (
        ∀ w_21 : World,
        w_21 = w_20.alloc (.cells #[.int .i64 r_Expr_Kind_4, .int .i64 r_Expr_Op_4, .string r_Expr_S_4, .string r_Expr_T_4, .int .i64 r_Expr_N_4, .slice r_Expr_L_4 r_Expr_L_len_4 r_Expr_L_cap_4] 24) → (
        ∀ b_n_1 : Nat,
        w_21.heap.size ≤ b_n_1 → (
        b_n_1 ≠ b4 → (
        -- umlautref17.go:286
        ∀ w_22 : World,
        Vc.Fr (fun k => k = b_n_1 ∨ k = b4) w_21 w_22 → (
        b_n_1 < w_22.heap.size → (
        b4 < w_22.heap.size → (
        ∃ t79 : Int,
        w_22.cell? (p.add 4) = some (.int .i64 t79) ∧ (
        (p.add 4).block ≠ b_n_1 ∧ (
        (p.add 4).block ≠ b4 ∧ (
        (w_22.cell? (p.add 4)).isSome = true ∧ (
        w_22.frozen? (p.add 4) = false ∧ (
        -- umlautref17.go:287
        ∀ w_23 : World,
        Vc.Fr (fun k => k = b_n_1 ∨ k = b4) (w_22.setCell (p.add 4) (.int .i64 (IntKind.i64.wrap (t79 - (1 : Int))))) w_23 → (
        b_n_1 < w_23.heap.size → (
        b4 < w_23.heap.size → (
        R (.agg #[.int .i64 (5 : Int), .int .i64 (20 : Int), .string (⟨#[]⟩ : ByteArray), .string (⟨#[]⟩ : ByteArray), .int .i64 (0 : Int), .slice (some (⟨w_20.heap.size, 0, none⟩ : Addr)) 1 1]) w_23)))))))))))))))))))))))))))))))))
     ∧ (
      (level == (10 : Int)) = false → (
      -- umlautref17.go:288
      (
       (level == (11 : Int)) = true → (
       -- umlautref17.go:289
       Calls Try.prog 39 #[.pointer (some p)] w_1 fun (e : Ending) (w_24 : World) => (
       ∃ r_first_Kind : Int,
       ∃ r_first_Op : Int,
       ∃ r_first_S : ByteArray,
       ∃ r_first_T : ByteArray,
       ∃ r_first_N : Int,
       ∃ (r_first_L : Option Addr) (r_first_L_len r_first_L_cap : Nat),
       e = .returned (.agg #[.int .i64 r_first_Kind, .int .i64 r_first_Op, .string r_first_S, .string r_first_T, .int .i64 r_first_N, .slice r_first_L r_first_L_len r_first_L_cap]) ∧ (
       (b4 < w_1.heap.size → w_24.heap[b4]? = w_1.heap[b4]?) ∧ (
       ∀ b_n_2 : Nat,
       w_24.heap.size ≤ b_n_2 → (
       b_n_2 ≠ b4 → (
       -- LOOP 84: n_Kind, n_Op, n_S, n_T, n_N, n_L
       ∃ (I : Int → Int → ByteArray → ByteArray → Int → Option Addr → Nat → Nat → World → Prop) (μ : Int → Int → ByteArray → ByteArray → Int → Option Addr → Nat → Nat → World → Nat),
       (
        ∀ w_25 : World,
        Vc.Fr (fun k => k = b_n_2 ∨ k = b4) w_24 w_25 → (
        b_n_2 < w_25.heap.size → (
        b4 < w_25.heap.size → (
        I r_first_Kind r_first_Op r_first_S r_first_T r_first_N r_first_L r_first_L_len r_first_L_cap w_25))))
       ∧ (
        ∀ (n_Kind : Int) (n_Op : Int) (n_S : ByteArray) (n_T : ByteArray) (n_N : Int) (n_L : Option Addr) (n_L_len n_L_cap : Nat),
        ∀ w_26 : World,
        I n_Kind n_Op n_S n_T n_N n_L n_L_len n_L_cap w_26 → (
        -- umlautref17.go:290
        Calls Try.prog 40 #[.pointer (some p), .string (⟨#[67, 79, 76, 76, 65, 84, 69]⟩ : ByteArray)] w_26 fun (e : Ending) (w_27 : World) => (
        ∃ r_take : Bool,
        e = .returned (.bool r_take) ∧ (
        (b_n_2 < w_26.heap.size → w_27.heap[b_n_2]? = w_26.heap[b_n_2]?) ∧ (
        (b4 < w_26.heap.size → w_27.heap[b4]? = w_26.heap[b4]?) ∧ (
        (
         r_take = true → (
         -- umlautref17.go:291 (draws)
         ∀ w_28 : World,
         Vc.Fr (fun k => k = b_n_2 ∨ k = b4) w_27 w_28 → (
         b_n_2 < w_28.heap.size → (
         b4 < w_28.heap.size → (
         ∃ M : Nat → Prop,
         (
          Calls Try.prog 41 #[.pointer (some p)] w_28 fun (e : Ending) (w_29 : World) => (
          ∃ r_name : ByteArray,
          e = .returned (.string r_name) ∧ (
          (b_n_2 < w_28.heap.size → w_29.heap[b_n_2]? = w_28.heap[b_n_2]?) ∧ (
          (b4 < w_28.heap.size → w_29.heap[b4]? = w_28.heap[b4]?) ∧ (
          Vc.Fr (fun k => M k ∨ (k = b_n_2)) w_28 w_29 ∧ (
          ∀ w_30 : World,
          w_30 = w_29.alloc (.cells #[.int .i64 n_Kind, .int .i64 n_Op, .string n_S, .string n_T, .int .i64 n_N, .slice n_L n_L_len n_L_cap] 24) → (
          Vc.Fr (fun k => M k ∨ (k = b_n_2)) w_28 w_30 ∧ (
          ∀ w_31 : World,
          Vc.Fr (fun k => k = b_n_2 ∨ k = b4) w_30 w_31 → (
          b_n_2 < w_31.heap.size → (
          b4 < w_31.heap.size → (
          I (11 : Int) (0 : Int) r_name (⟨#[]⟩ : ByteArray) (0 : Int) (some (⟨w_29.heap.size, 0, none⟩ : Addr)) 1 1 w_31 ∧ μ (11 : Int) (0 : Int) r_name (⟨#[]⟩ : ByteArray) (0 : Int) (some (⟨w_29.heap.size, 0, none⟩ : Addr)) 1 1 w_31 < μ n_Kind n_Op n_S n_T n_N n_L n_L_len n_L_cap w_26)))))))))))
         ∧ (
          (
           Calls Try.prog 41 #[.pointer (some p)] w_28 fun (e : Ending) (w_32 : World) => (
           ∃ r_name_1 : ByteArray,
           e = .returned (.string r_name_1) ∧ (
           (b_n_2 < w_28.heap.size → w_32.heap[b_n_2]? = w_28.heap[b_n_2]?) ∧ (
           (b4 < w_28.heap.size → w_32.heap[b4]? = w_28.heap[b4]?) ∧ (
           Vc.Fr (fun k => M k ∨ (k = b_n_2)) w_28 w_32 ∧ (
           ∀ w_33 : World,
           w_33 = w_32.alloc (.cells #[.int .i64 n_Kind, .int .i64 n_Op, .string n_S, .string n_T, .int .i64 n_N, .slice n_L n_L_len n_L_cap] 24) → (
           Vc.Fr (fun k => M k ∨ (k = b_n_2)) w_28 w_33 ∧ (
           ∀ w_34 : World,
           Vc.Fr (fun k => k = b_n_2 ∨ k = b4) w_33 w_34 → (
           b_n_2 < w_34.heap.size → (
           b4 < w_34.heap.size → (
           I (11 : Int) (0 : Int) r_name_1 (⟨#[]⟩ : ByteArray) (0 : Int) (some (⟨w_32.heap.size, 0, none⟩ : Addr)) 1 1 w_34 ∧ μ (11 : Int) (0 : Int) r_name_1 (⟨#[]⟩ : ByteArray) (0 : Int) (some (⟨w_32.heap.size, 0, none⟩ : Addr)) 1 1 w_34 < μ n_Kind n_Op n_S n_T n_N n_L n_L_len n_L_cap w_26)))))))))))
          ∧ (
           ∀ w_35 : World,
           w_35 = w_28.alloc (.cells #[.int .i64 n_Kind, .int .i64 n_Op, .string n_S, .string n_T, .int .i64 n_N, .slice n_L n_L_len n_L_cap] 24) → (
           Vc.Fr (fun k => M k ∨ (k = b_n_2)) w_28 w_35 ∧ (
           Calls Try.prog 41 #[.pointer (some p)] w_35 fun (e : Ending) (w_36 : World) => (
           ∃ r_name_2 : ByteArray,
           e = .returned (.string r_name_2) ∧ (
           (b_n_2 < w_35.heap.size → w_36.heap[b_n_2]? = w_35.heap[b_n_2]?) ∧ (
           (b4 < w_35.heap.size → w_36.heap[b4]? = w_35.heap[b4]?) ∧ (
           Vc.Fr (fun k => M k ∨ (k = b_n_2)) w_28 w_36 ∧ (
           ∀ w_37 : World,
           Vc.Fr (fun k => k = b_n_2 ∨ k = b4) w_36 w_37 → (
           b_n_2 < w_37.heap.size → (
           b4 < w_37.heap.size → (
           I (11 : Int) (0 : Int) r_name_2 (⟨#[]⟩ : ByteArray) (0 : Int) (some (⟨w_28.heap.size, 0, none⟩ : Addr)) 1 1 w_37 ∧ μ (11 : Int) (0 : Int) r_name_2 (⟨#[]⟩ : ByteArray) (0 : Int) (some (⟨w_28.heap.size, 0, none⟩ : Addr)) 1 1 w_37 < μ n_Kind n_Op n_S n_T n_N n_L n_L_len n_L_cap w_26)))))))))))))))))
        ∧ (
         r_take = false → (
         -- umlautref17.go:293
         ∀ w_38 : World,
         Vc.Fr (fun k => k = b_n_2 ∨ k = b4) w_27 w_38 → (
         b_n_2 < w_38.heap.size → (
         b4 < w_38.heap.size → (
         R (.agg #[.int .i64 n_Kind, .int .i64 n_Op, .string n_S, .string n_T, .int .i64 n_N, .slice n_L n_L_len n_L_cap]) w_38))))))))))))))))))
      ∧ (
       (level == (11 : Int)) = false → (
       -- umlautref17.go:295
       Calls Try.prog 30 #[.pointer (some p), .int .i64 (IntKind.i64.wrap (level + (1 : Int)))] w_1 fun (e : Ending) (w_39 : World) => (
       ∃ r_Expr_Kind_5 : Int,
       ∃ r_Expr_Op_5 : Int,
       ∃ r_Expr_S_5 : ByteArray,
       ∃ r_Expr_T_5 : ByteArray,
       ∃ r_Expr_N_5 : Int,
       ∃ (r_Expr_L_5 : Option Addr) (r_Expr_L_len_5 r_Expr_L_cap_5 : Nat),
       e = .returned (.agg #[.int .i64 r_Expr_Kind_5, .int .i64 r_Expr_Op_5, .string r_Expr_S_5, .string r_Expr_T_5, .int .i64 r_Expr_N_5, .slice r_Expr_L_5 r_Expr_L_len_5 r_Expr_L_cap_5]) ∧ (
       (b4 < w_1.heap.size → w_39.heap[b4]? = w_1.heap[b4]?) ∧ (
       ∀ b_n_3 : Nat,
       w_39.heap.size ≤ b_n_3 → (
       b_n_3 ≠ b4 → (
       -- LOOP 101: n_Kind, n_Op, n_S, n_T, n_N, n_L
       ∃ (I_1 : Int → Int → ByteArray → ByteArray → Int → Option Addr → Nat → Nat → World → Prop) (μ_1 : Int → Int → ByteArray → ByteArray → Int → Option Addr → Nat → Nat → World → Nat),
       (
        ∀ w_40 : World,
        Vc.Fr (fun k => k = b_n_3 ∨ k = b4) w_39 w_40 → (
        b_n_3 < w_40.heap.size → (
        b4 < w_40.heap.size → (
        I_1 r_Expr_Kind_5 r_Expr_Op_5 r_Expr_S_5 r_Expr_T_5 r_Expr_N_5 r_Expr_L_5 r_Expr_L_len_5 r_Expr_L_cap_5 w_40))))
       ∧ (
        ∀ (n_Kind_1 : Int) (n_Op_1 : Int) (n_S_1 : ByteArray) (n_T_1 : ByteArray) (n_N_1 : Int) (n_L_1 : Option Addr) (n_L_len_1 n_L_cap_1 : Nat),
        ∀ w_41 : World,
        I_1 n_Kind_1 n_Op_1 n_S_1 n_T_1 n_N_1 n_L_1 n_L_len_1 n_L_cap_1 w_41 → (
        -- umlautref17.go:296
        ∃ t103 : Int,
        w_41.cell? (p.add 2) = some (.int .i64 t103) ∧ (
        (
         (t103 == (0 : Int)) = true → (
         -- umlautref17.go:297
         Calls Try.prog 42 #[.pointer (some p), .int .i64 level] w_41 fun (e : Ending) (w_42 : World) => (
         ∃ r_opOf : Int,
         e = .returned (.int .i64 r_opOf) ∧ (
         (b_n_3 < w_41.heap.size → w_42.heap[b_n_3]? = w_41.heap[b_n_3]?) ∧ (
         (b4 < w_41.heap.size → w_42.heap[b4]? = w_41.heap[b4]?) ∧ (
         -- umlautref17.go:298
         (
          (r_opOf == (0 : Int)) = true → (
          -- umlautref17.go:305
          ∀ w_43 : World,
          Vc.Fr (fun k => k = b_n_3 ∨ k = b4) w_42 w_43 → (
          b_n_3 < w_43.heap.size → (
          b4 < w_43.heap.size → (
          R (.agg #[.int .i64 n_Kind_1, .int .i64 n_Op_1, .string n_S_1, .string n_T_1, .int .i64 n_N_1, .slice n_L_1 n_L_len_1 n_L_cap_1]) w_43)))))
         ∧ (
          (r_opOf == (0 : Int)) = false → (
          -- umlautref17.go:301
          ∃ t113 : Int,
          w_42.cell? (p.add 1) = some (.int .i64 t113) ∧ (
          (p.add 1).block ≠ b_n_3 ∧ (
          (p.add 1).block ≠ b4 ∧ (
          (w_42.cell? (p.add 1)).isSome = true ∧ (
          w_42.frozen? (p.add 1) = false ∧ (
          -- umlautref17.go:302
          Calls Try.prog 30 #[.pointer (some p), .int .i64 (IntKind.i64.wrap (level + (1 : Int)))] (w_42.setCell (p.add 1) (.int .i64 (IntKind.i64.wrap (t113 + (1 : Int))))) fun (e : Ending) (w_44 : World) => (
          ∃ r_Expr_Kind_6 : Int,
          ∃ r_Expr_Op_6 : Int,
          ∃ r_Expr_S_6 : ByteArray,
          ∃ r_Expr_T_6 : ByteArray,
          ∃ r_Expr_N_6 : Int,
          ∃ (r_Expr_L_6 : Option Addr) (r_Expr_L_len_6 r_Expr_L_cap_6 : Nat),
          e = .returned (.agg #[.int .i64 r_Expr_Kind_6, .int .i64 r_Expr_Op_6, .string r_Expr_S_6, .string r_Expr_T_6, .int .i64 r_Expr_N_6, .slice r_Expr_L_6 r_Expr_L_len_6 r_Expr_L_cap_6]) ∧ (
          (b_n_3 < (w_42.setCell (p.add 1) (.int .i64 (IntKind.i64.wrap (t113 + (1 : Int))))).heap.size → w_44.heap[b_n_3]? = (w_42.setCell (p.add 1) (.int .i64 (IntKind.i64.wrap (t113 + (1 : Int))))).heap[b_n_3]?) ∧ (
          (b4 < (w_42.setCell (p.add 1) (.int .i64 (IntKind.i64.wrap (t113 + (1 : Int))))).heap.size → w_44.heap[b4]? = (w_42.setCell (p.add 1) (.int .i64 (IntKind.i64.wrap (t113 + (1 : Int))))).heap[b4]?) ∧ (
          ∀ b_m : Nat,
          w_44.heap.size ≤ b_m → (
          b_m ≠ b_n_3 → (
          b_m ≠ b4 → (
          -- umlautref17.go:303
          ∀ w_45 : World,
          Vc.Fr (fun k => k = b_m ∨ k = b_n_3 ∨ k = b4) w_44 w_45 → (
          b_m < w_45.heap.size → (
          b_n_3 < w_45.heap.size → (
          b4 < w_45.heap.size → (
          ∀ w_46 : World,
          w_46 = w_45.alloc (.cells #[.int .i64 n_Kind_1, .int .i64 n_Op_1, .string n_S_1, .string n_T_1, .int .i64 n_N_1, .slice n_L_1 n_L_len_1 n_L_cap_1, .int .i64 r_Expr_Kind_6, .int .i64 r_Expr_Op_6, .string r_Expr_S_6, .string r_Expr_T_6, .int .i64 r_Expr_N_6, .slice r_Expr_L_6 r_Expr_L_len_6 r_Expr_L_cap_6] 24) → (
          ∀ w_47 : World,
          Vc.Fr (fun k => k = b_m ∨ k = b_n_3 ∨ k = b4) w_46 w_47 → (
          b_m < w_47.heap.size → (
          b_n_3 < w_47.heap.size → (
          b4 < w_47.heap.size → (
          I_1 (6 : Int) r_opOf (⟨#[]⟩ : ByteArray) (⟨#[]⟩ : ByteArray) (0 : Int) (some (⟨w_45.heap.size, 0, none⟩ : Addr)) 2 2 w_47 ∧ μ_1 (6 : Int) r_opOf (⟨#[]⟩ : ByteArray) (⟨#[]⟩ : ByteArray) (0 : Int) (some (⟨w_45.heap.size, 0, none⟩ : Addr)) 2 2 w_47 < μ_1 n_Kind_1 n_Op_1 n_S_1 n_T_1 n_N_1 n_L_1 n_L_len_1 n_L_cap_1 w_41)))))))))))))))))))))))))))))
        ∧ (
         (t103 == (0 : Int)) = false → (
         -- umlautref17.go:305
         ∀ w_48 : World,
         Vc.Fr (fun k => k = b_n_3 ∨ k = b4) w_41 w_48 → (
         b_n_3 < w_48.heap.size → (
         b4 < w_48.heap.size → (
         R (.agg #[.int .i64 n_Kind_1, .int .i64 n_Op_1, .string n_S_1, .string n_T_1, .int .i64 n_N_1, .slice n_L_1 n_L_len_1 n_L_cap_1]) w_48)))))))))))))))))))))))))))
def Sh.ref17_Parser_Expr_h : Vc.H := (.seq (.reg (.o 0 1 (.done 0))) (.seq (.seq (.reg (.p 0 0 (.p 1 0 (.p 2 0 (.o 3 0 (.p 4 0 (.done 0))))))) (.cond false (.seq (.reg (.p 0 0 (.o 1 0 (.done 0)))) (.nil 0)) (.nil 0))) (.seq (.seq (.reg (.p 0 0 (.done 0))) (.block (.seq (.reg (.p 0 0 (.p 1 0 (.done 0)))) (.cond false (.seq (.seq (.reg (.p 0 0 (.o 1 0 (.p 2 0 (.done 0))))) (.cond false (.seq (.reg (.p 0 0 (.o 1 0 (.o 2 0 (.done 0))))) (.nil 0)) (.nil 0))) (.seq (.seq (.reg (.p 0 0 (.o 1 0 (.p 2 0 (.done 0))))) (.cond false (.seq (.reg (.p 0 0 (.o 1 0 (.done 0)))) (.nil 0)) (.nil 0))) (.seq (.reg (.p 0 0 (.p 1 0 (.p 2 0 (.o 3 0 (.p 4 0 (.p 5 0 (.p 6 0 (.o 7 0 (.done 0)))))))))) (.seq (.reg (.p 0 0 (.o 1 0 (.o 2 0 (.p 3 0 (.o 4 1 (.o 5 0 (.done 0)))))))) (.seq (.reg (.p 0 0 (.p 1 0 (.p 2 0 (.o 3 0 (.p 4 0 (.p 5 0 (.p 6 0 (.o 7 0 (.done 0)))))))))) (.seq (.reg (.p 0 0 (.o 1 0 (.done 0)))) (.nil 0))))))) (.seq (.reg (.p 0 0 (.p 1 0 (.done 0)))) (.cond false (.seq (.reg (.p 0 0 (.p 1 0 (.o 2 0 (.o 3 0 (.o 4 0 (.done 0))))))) (.nil 0)) (.seq (.reg (.p 0 0 (.p 1 0 (.done 0)))) (.cond false (.seq (.seq (.reg (.p 0 0 (.o 1 0 (.p 2 0 (.done 0))))) (.cond false (.seq (.reg (.p 0 0 (.o 1 0 (.o 2 0 (.done 0))))) (.nil 0)) (.nil 0))) (.seq (.seq (.reg (.p 0 0 (.o 1 0 (.p 2 0 (.done 0))))) (.cond false (.seq (.reg (.p 0 0 (.o 1 0 (.done 0)))) (.nil 0)) (.nil 0))) (.seq (.reg (.p 0 0 (.p 1 0 (.p 2 0 (.o 3 0 (.p 4 0 (.p 5 0 (.p 6 0 (.o 7 0 (.done 0)))))))))) (.seq (.reg (.p 0 0 (.o 1 0 (.o 2 0 (.p 3 0 (.o 4 1 (.o 5 0 (.done 0)))))))) (.seq (.reg (.p 0 0 (.p 1 0 (.p 2 0 (.o 3 0 (.p 4 0 (.p 5 0 (.p 6 0 (.o 7 0 (.done 0)))))))))) (.seq (.reg (.p 0 0 (.o 1 0 (.done 0)))) (.nil 0))))))) (.seq (.reg (.p 0 0 (.p 1 0 (.done 0)))) (.cond false (.seq (.reg (.p 0 0 (.o 1 0 (.o 2 1 (.o 3 0 (.done 0)))))) (.seq (.block (.loop [((8, 0), .int .i64), ((8, 1), .int .i64), ((8, 2), .str), ((8, 3), .str), ((8, 4), .int .i64), ((8, 5), .slice)] [(0, 88), (0, 89), (0, 90), (0, 91), (0, 92), (0, 93), (0, 94)] (.seq (.seq (.reg (.p 0 0 (.o 1 0 (.done 0)))) (.cond false (.nil 0) (.nil 0))) (.block (.draw true [7] (.p 0 0 (.br 1 0 (.o 2 8 (.o 3 0 (.p 4 0 (.o 5 0 (.done 0))))) (.o 2 8 (.br 1 0 (.o 3 0 (.p 4 0 (.o 5 0 (.done 0)))) (.o 3 0 (.o 1 0 (.p 4 0 (.o 5 0 (.done 0)))))))))))))) (.seq (.reg (.p 0 0 (.o 1 0 (.done 0)))) (.nil 0)))) (.nil 0))))))))))) (.seq (.reg (.p 0 0 (.p 1 0 (.p 2 0 (.o 3 0 (.o 4 1 (.o 5 0 (.done 0)))))))) (.seq (.block (.loop [((9, 0), .int .i64), ((9, 1), .int .i64), ((9, 2), .str), ((9, 3), .str), ((9, 4), .int .i64), ((9, 5), .slice)] [(0, 100), (0, 101), (0, 102), (0, 103), (0, 104), (0, 105), (0, 106), (0, 107), (0, 9), (0, 108), (0, 109), (0, 110), (0, 111), (0, 112), (0, 113), (0, 114), (0, 115), (0, 116), (0, 117), (0, 118), (0, 119), (0, 120), (0, 10), (0, 121), (0, 122), (0, 123), (0, 124), (0, 125)] (.seq (.seq (.reg (.p 0 0 (.p 1 0 (.p 2 0 (.o 3 0 (.p 4 0 (.done 0))))))) (.cond false (.nil 0) (.nil 0))) (.block (.seq (.reg (.p 0 0 (.p 1 0 (.o 2 0 (.p 3 0 (.done 0)))))) (.seq (.seq (.reg (.p 0 0 (.p 1 0 (.done 0)))) (.cond false (.nil 0) (.nil 0))) (.seq (.reg (.p 0 0 (.p 1 0 (.p 2 0 (.o 3 0 (.p 4 0 (.p 5 0 (.p 6 0 (.o 7 0 (.done 0)))))))))) (.seq (.reg (.p 0 0 (.p 1 0 (.p 2 0 (.o 3 0 (.o 4 1 (.o 5 0 (.done 0)))))))) (.reg (.p 0 0 (.p 1 0 (.p 2 0 (.o 3 0 (.p 4 0 (.o 5 0 (.done 0)))))))))))))))) (.seq (.reg (.p 0 0 (.o 1 0 (.done 0)))) (.nil 0)))))))
theorem Sh.ref17_Parser_Expr_eq (p : Addr) (level : Int) (w : World) (R : Value → World → Prop) : Sh.ref17_Parser_Expr p level w R = Vc.vcFn Try.prog tab okF Try.f30 Sh.ref17_Parser_Expr_h [.pointer (some p), .int .i64 level] w R := by kernel_rfl
theorem Sh.ref17_Parser_Expr_calls (p : Addr) (level : Int) {w : World} {R : Value → World → Prop} (h : Sh.ref17_Parser_Expr p level w R) : Calls Try.prog 30 #[.pointer (some p), .int .i64 level] w fun e w' => ∃ v, e = .returned v ∧ R v w' :=
  Vc.fn_calls mixed tabOk okF_ok Try.func30 (by kernel_rfl) (by kernel_rfl) (by rw [← Sh.ref17_Parser_Expr_eq p level]; exact h)

def Sh.ref17_Parser_fail (p : Addr) (e_1 : Int) (w : World) (R : Value → World → Prop) : Prop :=
  -- umlautref17.go:194
  ∃ t7 : Int,
  w.cell? (p.add 2) = some (.int .i64 t7) ∧ (
  (
   (t7 != (0 : Int)) = true → (
   R (.tuple #[]) w))
  ∧ (
   (t7 != (0 : Int)) = false → (
   -- umlautref17.go:197
   (w.cell? (p.add 2)).isSome = true ∧ (
   w.frozen? (p.add 2) = false ∧ (
   -- umlautref17.go:198
   ∃ t17 : Int,
   (w.setCell (p.add 2) (.int .i64 e_1)).cell? (p.add 5) = some (.int .i64 t17) ∧ (
   ((w.setCell (p.add 2) (.int .i64 e_1)).cell? (p.add 3)).isSome = true ∧ (
   (w.setCell (p.add 2) (.int .i64 e_1)).frozen? (p.add 3) = false ∧ (
   -- umlautref17.go:199 (draws)
   ∀ w_1 : World,
   Vc.Fr (fun k => False) ((w.setCell (p.add 2) (.int .i64 e_1)).setCell (p.add 3) (.int .i64 t17)) w_1 → (
   ∃ t23 : Int,
   w_1.cell? (p.add 1) = some (.int .i64 t23) ∧ (
   ∃ (t27 : Option Addr) (t27_len t27_cap : Nat),
   w_1.cell? p = some (.slice t27 t27_len t27_cap) ∧ (
   (
    (decide (t23 < ((t27_len : Nat) : Int))) = true → (
    -- umlautref17.go:200 (draws)
    ∀ w_2 : World,
    Vc.Fr (fun k => False) w_1 w_2 → (
    ∃ M : Nat → Prop,
    (
     ∃ (t34 : Option Addr) (t34_len t34_cap : Nat),
     w_2.cell? p = some (.slice t34 t34_len t34_cap) ∧ (
     ∃ t38 : Int,
     w_2.cell? (p.add 1) = some (.int .i64 t38) ∧ (
     ∃ p_1 : Addr,
     t34 = some p_1 ∧ (
     (0 ≤ t38 ∧ t38 < ((t34_len : Nat) : Int)) ∧ (
     ∃ t41 : Int,
     w_2.cell? ((p_1.add (t38.toNat * 4)).add 3) = some (.int .i64 t41) ∧ (
     (w_2.cell? (p.add 3)).isSome = true ∧ (
     w_2.frozen? (p.add 3) = false ∧ (
     Vc.Fr (fun k => M k ∨ (False)) w_2 (w_2.setCell (p.add 3) (.int .i64 t41)) ∧ (
     R (.tuple #[]) (w_2.setCell (p.add 3) (.int .i64 t41)))))))))))
    ∧ (
     ∃ t38_1 : Int,
     w_2.cell? (p.add 1) = some (.int .i64 t38_1) ∧ (
     ∃ (t34_1 : Option Addr) (t34_len_1 t34_cap_1 : Nat),
     w_2.cell? p = some (.slice t34_1 t34_len_1 t34_cap_1) ∧ (
     ∃ p_2 : Addr,
     t34_1 = some p_2 ∧ (
     (0 ≤ t38_1 ∧ t38_1 < ((t34_len_1 : Nat) : Int)) ∧ (
     ∃ t41_1 : Int,
     w_2.cell? ((p_2.add (t38_1.toNat * 4)).add 3) = some (.int .i64 t41_1) ∧ (
     (w_2.cell? (p.add 3)).isSome = true ∧ (
     w_2.frozen? (p.add 3) = false ∧ (
     Vc.Fr (fun k => M k ∨ (False)) w_2 (w_2.setCell (p.add 3) (.int .i64 t41_1)) ∧ (
     R (.tuple #[]) (w_2.setCell (p.add 3) (.int .i64 t41_1))))))))))))))
   ∧ (
    (decide (t23 < ((t27_len : Nat) : Int))) = false → (
    R (.tuple #[]) w_1)))))))))))))
def Sh.ref17_Parser_fail_h : Vc.H := (.seq (.seq (.reg (.p 0 0 (.p 1 0 (.p 2 0 (.o 3 0 (.p 4 0 (.done 0))))))) (.cond false (.nil 0) (.nil 0))) (.seq (.reg (.p 0 0 (.p 1 0 (.p 2 0 (.p 3 0 (.o 4 0 (.done 0))))))) (.seq (.reg (.p 0 0 (.p 1 0 (.p 2 0 (.p 3 0 (.o 4 0 (.p 5 0 (.p 6 0 (.o 7 0 (.done 0)))))))))) (.seq (.draw false [] (.p 0 0 (.p 1 0 (.p 2 0 (.l 3 (.p 4 0 (.p 5 0 (.p 6 0 (.l 7 (.p 8 0 (.p 9 0 (.done 0)))))))))))) (.cond false (.draw true [] (.p 0 0 (.p 1 0 (.p 2 0 (.p 3 0 (.p 5 0 (.p 6 0 (.p 7 0 (.br 4 0 (.o 8 0 (.p 9 1 (.p 10 0 (.o 11 0 (.p 12 0 (.p 13 0 (.o 14 0 (.done 0)))))))) (.o 8 0 (.o 4 0 (.p 9 1 (.p 10 0 (.o 11 0 (.p 12 0 (.p 13 0 (.o 14 0 (.done 0)))))))))))))))))) (.nil 0))))))
theorem Sh.ref17_Parser_fail_eq (p : Addr) (e_1 : Int) (w : World) (R : Value → World → Prop) : Sh.ref17_Parser_fail p e_1 w R = Vc.vcFn Try.prog tab okF Try.f31 Sh.ref17_Parser_fail_h [.pointer (some p), .int .i64 e_1] w R := by kernel_rfl
theorem Sh.ref17_Parser_fail_calls (p : Addr) (e_1 : Int) {w : World} {R : Value → World → Prop} (h : Sh.ref17_Parser_fail p e_1 w R) : Calls Try.prog 31 #[.pointer (some p), .int .i64 e_1] w fun e w' => ∃ v, e = .returned v ∧ R v w' :=
  Vc.fn_calls mixed tabOk okF_ok Try.func31 (by kernel_rfl) (by kernel_rfl) (by rw [← Sh.ref17_Parser_fail_eq p e_1]; exact h)

def Sh.ref17_Parser_is (p : Addr) (s : ByteArray) (w : World) (R : Value → World → Prop) : Prop :=
  -- umlautref17.go:187
  -- umlautref17.go:188
  Calls Try.prog 52 #[.pointer (some p)] w fun (e : Ending) (w_1 : World) => (
  ∃ r_kind : Int,
  e = .returned (.int .i64 r_kind) ∧ (
  -- umlautref17.go:189 (draws)
  ∀ w_2 : World,
  Vc.Fr (fun k => False) w_1 w_2 → (
  ((!(r_kind == (5 : Int))) = true → (!(r_kind == (5 : Int))) = true) ∧ (
  ((r_kind == (5 : Int)) = false → (!(r_kind == (5 : Int))) = true) ∧ (
  (((r_kind == (5 : Int)) || (r_kind == (2 : Int))) = true → ((r_kind == (5 : Int)) || (r_kind == (2 : Int))) = true) ∧ (
  (((r_kind == (5 : Int)) || (r_kind == (2 : Int))) = true → ((r_kind == (5 : Int)) || (r_kind == (2 : Int))) = true) ∧ (
  (((r_kind == (5 : Int)) || (r_kind == (2 : Int))) = true → ((r_kind == (5 : Int)) || (r_kind == (2 : Int))) = true) ∧ (
  (((r_kind == (5 : Int)) || (r_kind == (2 : Int))) = true → ((r_kind == (5 : Int)) || (r_kind == (2 : Int))) = true) ∧ (
  (
   ((r_kind == (5 : Int)) || (r_kind == (2 : Int))) = true → (
   (
    ((r_kind == (5 : Int)) || (r_kind == (2 : Int))) = true ∧ (
    ∃ (t18 : Option Addr) (t18_len t18_cap : Nat),
    w_2.cell? p = some (.slice t18 t18_len t18_cap) ∧ (
    ((r_kind == (5 : Int)) || (r_kind == (2 : Int))) = true ∧ (
    ∃ t22 : Int,
    w_2.cell? (p.add 1) = some (.int .i64 t22) ∧ (
    ∃ p_1 : Addr,
    t18 = some p_1 ∧ (
    (0 ≤ t22 ∧ t22 < ((t18_len : Nat) : Int)) ∧ (
    ∃ t25 : ByteArray,
    w_2.cell? ((p_1.add (t22.toNat * 4)).add 1) = some (.string t25) ∧ (
    ((r_kind == (5 : Int)) || (r_kind == (2 : Int))) = true ∧ (
    R (.bool (t25.toList == s.toList)) w_2)))))))))
   ∧ (
    ((r_kind == (5 : Int)) || (r_kind == (2 : Int))) = true ∧ (
    ∃ t22_1 : Int,
    w_2.cell? (p.add 1) = some (.int .i64 t22_1) ∧ (
    ((r_kind == (5 : Int)) || (r_kind == (2 : Int))) = true ∧ (
    ∃ (t18_1 : Option Addr) (t18_len_1 t18_cap_1 : Nat),
    w_2.cell? p = some (.slice t18_1 t18_len_1 t18_cap_1) ∧ (
    ∃ p_2 : Addr,
    t18_1 = some p_2 ∧ (
    (0 ≤ t22_1 ∧ t22_1 < ((t18_len_1 : Nat) : Int)) ∧ (
    ∃ t25_1 : ByteArray,
    w_2.cell? ((p_2.add (t22_1.toNat * 4)).add 1) = some (.string t25_1) ∧ (
    ((r_kind == (5 : Int)) || (r_kind == (2 : Int))) = true ∧ (
    R (.bool (t25_1.toList == s.toList)) w_2)))))))))))
  ∧ (
   ((r_kind == (5 : Int)) || (r_kind == (2 : Int))) = false → (
   R (.bool false) w_2)))))))))))
def Sh.ref17_Parser_is_h : Vc.H := (.seq (.reg (.p 0 0 (.done 0))) (.seq (.reg (.p 0 0 (.o 1 0 (.p 2 0 (.done 0))))) (.seq (.draw false [] (.p 0 0 (.p 1 0 (.p 2 0 (.p 3 0 (.p 4 0 (.p 5 0 (.p 6 0 (.p 7 0 (.p 8 0 (.p 9 0 (.p 11 0 (.p 12 0 (.p 13 0 (.p 18 0 (.s 14 (.br 10 0 (.o 14 0 (.p 15 9 (.p 16 8 (.o 17 0 (.p 19 8 (.p 20 1 (.p 21 0 (.done 0)))))))) (.o 14 0 (.o 10 0 (.p 15 9 (.p 16 8 (.o 17 0 (.p 19 8 (.p 20 1 (.p 21 0 (.done 0)))))))))) (.sk 10 (.sk 14 (.sk 15 (.sk 16 (.sk 17 (.sk 19 (.p 20 1 (.p 21 0 (.done 0))))))))))))))))))))))))) (.nil 0))))
theorem Sh.ref17_Parser_is_eq (p : Addr) (s : ByteArray) (w : World) (R : Value → World → Prop) : Sh.ref17_Parser_is p s w R = Vc.vcFn Try.prog tab okF Try.f36 Sh.ref17_Parser_is_h [.pointer (some p), .string s] w R := by kernel_rfl
theorem Sh.ref17_Parser_is_calls (p : Addr) (s : ByteArray) {w : World} {R : Value → World → Prop} (h : Sh.ref17_Parser_is p s w R) : Calls Try.prog 36 #[.pointer (some p), .string s] w fun e w' => ∃ v, e = .returned v ∧ R v w' :=
  Vc.fn_calls mixed tabOk okF_ok Try.func36 (by kernel_rfl) (by kernel_rfl) (by rw [← Sh.ref17_Parser_is_eq p s]; exact h)

def Sh.ref17_Parser_in (p : Addr) (w : World) (R : Value → World → Prop) : Prop :=
  -- umlautref17.go:231
  -- umlautref17.go:232
  ∃ t6 : Int,
  w.cell? (p.add 2) = some (.int .i64 t6) ∧ (
  (
   (t6 != (0 : Int)) = true → (
   -- umlautref17.go:233
   R (.bool false) w))
  ∧ (
   (t6 != (0 : Int)) = false → (
   -- umlautref17.go:235
   ∃ t11 : Int,
   w.cell? (p.add 4) = some (.int .i64 t11) ∧ (
   (
    (decide (t11 ≥ (24 : Int))) = true → (
    -- umlautref17.go:236
    Calls Try.prog 31 #[.pointer (some p), .int .i64 (21 : Int)] w fun (e : Ending) (w_1 : World) => (
    e = .returned (.tuple #[]) ∧ (
    -- umlautref17.go:237
    R (.bool false) w_1))))
   ∧ (
    (decide (t11 ≥ (24 : Int))) = false → (
    -- umlautref17.go:239
    ∃ t18 : Int,
    w.cell? (p.add 4) = some (.int .i64 t18) ∧ (
    (w.cell? (p.add 4)).isSome = true ∧ (
    w.frozen? (p.add 4) = false ∧ (
    -- umlautref17.go:240
    R (.bool true) (w.setCell (p.add 4) (.int .i64 (IntKind.i64.wrap (t18 + (1 : Int))))))))))))))
def Sh.ref17_Parser_in_h : Vc.H := (.seq (.reg (.p 0 0 (.done 0))) (.seq (.seq (.reg (.p 0 0 (.p 1 0 (.p 2 0 (.o 3 0 (.p 4 0 (.done 0))))))) (.cond false (.seq (.reg (.p 0 0 (.done 0))) (.nil 0)) (.nil 0))) (.seq (.seq (.reg (.p 0 0 (.p 1 0 (.p 2 0 (.o 3 0 (.p 4 0 (.done 0))))))) (.cond false (.seq (.reg (.p 0 0 (.o 1 0 (.done 0)))) (.seq (.reg (.p 0 0 (.done 0))) (.nil 0))) (.nil 0))) (.seq (.reg (.p 0 0 (.p 1 0 (.p 2 0 (.o 3 0 (.p 4 0 (.p 5 0 (.p 6 0 (.o 7 0 (.done 0)))))))))) (.seq (.reg (.p 0 0 (.done 0))) (.nil 0))))))
theorem Sh.ref17_Parser_in_eq (p : Addr) (w : World) (R : Value → World → Prop) : Sh.ref17_Parser_in p w R = Vc.vcFn Try.prog tab okF Try.f37 Sh.ref17_Parser_in_h [.pointer (some p)] w R := by kernel_rfl
theorem Sh.ref17_Parser_in_calls (p : Addr) {w : World} {R : Value → World → Prop} (h : Sh.ref17_Parser_in p w R) : Calls Try.prog 37 #[.pointer (some p)] w fun e w' => ∃ v, e = .returned v ∧ R v w' :=
  Vc.fn_calls mixed tabOk okF_ok Try.func37 (by kernel_rfl) (by kernel_rfl) (by rw [← Sh.ref17_Parser_in_eq p]; exact h)

def Sh.ref17_Parser_compare (p : Addr) (a_Kind : Int) (a_Op : Int) (a_S : ByteArray) (a_T : ByteArray) (a_N : Int) (a_L : Option Addr) (a_L_len a_L_cap : Nat) (w : World) (R : Value → World → Prop) : Prop :=
  -- umlautref17.go:309
  ∀ b_a : Nat,
  w.heap.size ≤ b_a → (
  ∀ b4 : Nat,
  w.heap.size ≤ b4 → (
  b4 ≠ b_a → (
  -- umlautref17.go:310
  ∀ w_1 : World,
  Vc.Fr (fun k => k = b4 ∨ k = b_a) w w_1 → (
  b4 < w_1.heap.size → (
  b_a < w_1.heap.size → (
  ∃ t15 : Int,
  w_1.cell? (p.add 2) = some (.int .i64 t15) ∧ (
  (
   (t15 != (0 : Int)) = true → (
   -- umlautref17.go:311
   ∀ w_2 : World,
   Vc.Fr (fun k => k = b4 ∨ k = b_a) w_1 w_2 → (
   b4 < w_2.heap.size → (
   b_a < w_2.heap.size → (
   R (.agg #[.int .i64 a_Kind, .int .i64 a_Op, .string a_S, .string a_T, .int .i64 a_N, .slice a_L a_L_len a_L_cap]) w_2)))))
  ∧ (
   (t15 != (0 : Int)) = false → (
   -- umlautref17.go:313
   ∀ w_3 : World,
   w_3 = w_1.alloc (.cells #[.string (⟨#[61]⟩ : ByteArray), .string (⟨#[60, 62]⟩ : ByteArray), .string (⟨#[60]⟩ : ByteArray), .string (⟨#[60, 61]⟩ : ByteArray), .string (⟨#[62]⟩ : ByteArray), .string (⟨#[62, 61]⟩ : ByteArray)] 9) → (
   -- umlautref17.go:314
   -- LOOP 17: i, t4_Kind, t4_Op, t4_S, t4_T, t4_N, t4_L
   ∃ (I : Int → Int → Int → ByteArray → ByteArray → Int → Option Addr → Nat → Nat → World → Prop) (μ : Int → Int → Int → ByteArray → ByteArray → Int → Option Addr → Nat → Nat → World → Nat),
   (
    I (0 : Int) (0 : Int) (0 : Int) (⟨#[]⟩ : ByteArray) (⟨#[]⟩ : ByteArray) (0 : Int) none 0 0 w_3)
   ∧ (
    ∀ (i : Int) (t4_Kind : Int) (t4_Op : Int) (t4_S : ByteArray) (t4_T : ByteArray) (t4_N : Int) (t4_L : Option Addr) (t4_L_len t4_L_cap : Nat),
    ∀ w_4 : World,
    I i t4_Kind t4_Op t4_S t4_T t4_N t4_L t4_L_len t4_L_cap w_4 → (
    -- umlautref17.go:314
    (
     (decide (i < ((6 : Nat) : Int))) = true → (
     -- umlautref17.go:315
     (0 ≤ i ∧ i < ((6 : Nat) : Int)) ∧ (
     ∃ t29 : ByteArray,
     w_4.cell? ((⟨w_1.heap.size, 0, none⟩ : Addr).add (i.toNat * 1)) = some (.string t29) ∧ (
     Calls Try.prog 36 #[.pointer (some p), .string t29] w_4 fun (e : Ending) (w_5 : World) => (
     ∃ r_is : Bool,
     e = .returned (.bool r_is) ∧ (
     (b4 < w_4.heap.size → w_5.heap[b4]? = w_4.heap[b4]?) ∧ (
     (b_a < w_4.heap.size → w_5.heap[b_a]? = w_4.heap[b_a]?) ∧ (
     (
      r_is = true → (
      -- umlautref17.go:316
      ∃ t34 : Int,
      w_5.cell? (p.add 1) = some (.int .i64 t34) ∧ (
      (p.add 1).block ≠ b4 ∧ (
      (p.add 1).block ≠ b_a ∧ (
      (w_5.cell? (p.add 1)).isSome = true ∧ (
      w_5.frozen? (p.add 1) = false ∧ (
      -- umlautref17.go:317 (draws)
      ∀ w_6 : World,
      Vc.Fr (fun k => k = b4 ∨ k = b_a) (w_5.setCell (p.add 1) (.int .i64 (IntKind.i64.wrap (t34 + (1 : Int))))) w_6 → (
      b4 < w_6.heap.size → (
      b_a < w_6.heap.size → (
      ∃ M : Nat → Prop,
      Calls Try.prog 30 #[.pointer (some p), .int .i64 (5 : Int)] w_6 fun (e : Ending) (w_7 : World) => (
      ∃ r_Expr_Kind : Int,
      ∃ r_Expr_Op : Int,
      ∃ r_Expr_S : ByteArray,
      ∃ r_Expr_T : ByteArray,
      ∃ r_Expr_N : Int,
      ∃ (r_Expr_L : Option Addr) (r_Expr_L_len r_Expr_L_cap : Nat),
      e = .returned (.agg #[.int .i64 r_Expr_Kind, .int .i64 r_Expr_Op, .string r_Expr_S, .string r_Expr_T, .int .i64 r_Expr_N, .slice r_Expr_L r_Expr_L_len r_Expr_L_cap]) ∧ (
      (b4 < w_6.heap.size → w_7.heap[b4]? = w_6.heap[b4]?) ∧ (
      (b_a < w_6.heap.size → w_7.heap[b_a]? = w_6.heap[b_a]?) ∧ (
      Vc.Fr (fun k => M k ∨ (k = b4)) w_6 w_7 ∧ (
      ∀ w_8 : World,
      w_8 = w_7.alloc (.cells #[.int .i64 a_Kind, .int .i64 a_Op, .string a_S, .string a_T, .int .i64 a_N, .slice a_L a_L_len a_L_cap, .int .i64 r_Expr_Kind, .int .i64 r_Expr_Op, .string r_Expr_S, .string r_Expr_T, .int .i64 r_Expr_N, .slice r_Expr_L r_Expr_L_len r_Expr_L_cap] 24) → (
      Vc.Fr (fun k => M k ∨ (k = b4)) w_6 w_8 ∧ (
      ∀ w_9 : World,
      Vc.Fr (fun k => k = b4 ∨ k = b_a) w_8 w_9 → (
      b4 < w_9.heap.size → (
      b_a < w_9.heap.size → (
      R (.agg #[.int .i64 (6 : Int), .int .i64 (IntKind.i64.wrap ((1 : Int) + i)), .string (⟨#[]⟩ : ByteArray), .string (⟨#[]⟩ : ByteArray), .int .i64 (0 : Int), .slice (some (⟨w_7.heap.size, 0, none⟩ : Addr)) 2 2]) w_9))))))))))))))))))))
     ∧ (
      r_is = false → (
      -- umlautref17.go:314
      I (IntKind.i64.wrap (i + (1 : Int))) t4_Kind t4_Op t4_S t4_T t4_N t4_L t4_L_len t4_L_cap w_5 ∧ μ (IntKind.i64.wrap (i + (1 : Int))) t4_Kind t4_Op t4_S t4_T t4_N t4_L t4_L_len t4_L_cap w_5 < μ i t4_Kind t4_Op t4_S t4_T t4_N t4_L t4_L_len t4_L_cap w_4))))))))))
    ∧ (
     (decide (i < ((6 : Nat) : Int))) = false → (
     -- umlautref17.go:320
     Calls Try.prog 40 #[.pointer (some p), .string (⟨#[73, 83]⟩ : ByteArray)] w_4 fun (e : Ending) (w_10 : World) => (
     ∃ r_take : Bool,
     e = .returned (.bool r_take) ∧ (
     (b4 < w_4.heap.size → w_10.heap[b4]? = w_4.heap[b4]?) ∧ (
     (b_a < w_4.heap.size → w_10.heap[b_a]? = w_4.heap[b_a]?) ∧ (
     (
      r_take = true → (
      -- umlautref17.go:321
      ∀ w_11 : World,
      w_11 = w_10.alloc (.cells #[.int .i64 a_Kind, .int .i64 a_Op, .string a_S, .string a_T, .int .i64 a_N, .slice a_L a_L_len a_L_cap] 24) → (
      ∀ b_n : Nat,
      w_11.heap.size ≤ b_n → (
      b_n ≠ b4 → (
      b_n ≠ b_a → (
      -- umlautref17.go:322
      ∀ w_12 : World,
      Vc.Fr (fun k => k = b_n ∨ k = b4 ∨ k = b_a) w_11 w_12 → (
      b_n < w_12.heap.size → (
      b4 < w_12.heap.size → (
      b_a < w_12.heap.size → (
      Calls Try.prog 40 #[.pointer (some p), .string (⟨#[78, 79, 84]⟩ : ByteArray)] w_12 fun (e : Ending) (w_13 : World) => (
      ∃ r_take_1 : Bool,
      e = .returned (.bool r_take_1) ∧ (
      (b_n < w_12.heap.size → w_13.heap[b_n]? = w_12.heap[b_n]?) ∧ (
      (b4 < w_12.heap.size → w_13.heap[b4]? = w_12.heap[b4]?) ∧ (
      (b_a < w_12.heap.size → w_13.heap[b_a]? = w_12.heap[b_a]?) ∧ (
      (
       r_take_1 = true → (
       -- umlautref17.go:323
       -- umlautref17.go:325
       ∀ w_14 : World,
       Vc.Fr (fun k => k = b_n ∨ k = b4 ∨ k = b_a) w_13 w_14 → (
       b_n < w_14.heap.size → (
       b4 < w_14.heap.size → (
       b_a < w_14.heap.size → (
       Calls Try.prog 53 #[.pointer (some p), .string (⟨#[78, 85, 76, 76]⟩ : ByteArray)] w_14 fun (e : Ending) (w_15 : World) => (
       e = .returned (.tuple #[]) ∧ (
       (b_n < w_14.heap.size → w_15.heap[b_n]? = w_14.heap[b_n]?) ∧ (
       (b4 < w_14.heap.size → w_15.heap[b4]? = w_14.heap[b4]?) ∧ (
       (b_a < w_14.heap.size → w_15.heap[b_a]? = w_14.heap[b_a]?) ∧ (
       -- umlautref17.go:326
       ∀ w_16 : World,
       Vc.Fr (fun k => k = b_n ∨ k = b4 ∨ k = b_a) w_15 w_16 → (
       b_n < w_16.heap.size → (
       b4 < w_16.heap.size → (
       b_a < w_16.heap.size → (
       R (.agg #[.int .i64 (7 : Int), .int .i64 (0 : Int), .string (⟨#[]⟩ : ByteArray), .string (⟨#[]⟩ : ByteArray), .int .i64 (1 : Int), .slice (some (⟨w_10.heap.size, 0, none⟩ : Addr)) 1 1]) w_16)))))))))))))))
      ∧ (
       r_take_1 = false → (
       -- umlautref17.go:325
       Calls Try.prog 53 #[.pointer (some p), .string (⟨#[78, 85, 76, 76]⟩ : ByteArray)] w_13 fun (e : Ending) (w_17 : World) => (
       e = .returned (.tuple #[]) ∧ (
       (b_n < w_13.heap.size → w_17.heap[b_n]? = w_13.heap[b_n]?) ∧ (
       (b4 < w_13.heap.size → w_17.heap[b4]? = w_13.heap[b4]?) ∧ (
       (b_a < w_13.heap.size → w_17.heap[b_a]? = w_13.heap[b_a]?) ∧ (
       -- umlautref17.go:326
       ∀ w_18 : World,
       Vc.Fr (fun k => k = b_n ∨ k = b4 ∨ k = b_a) w_17 w_18 → (
       b_n < w_18.heap.size → (
       b4 < w_18.heap.size → (
       b_a < w_18.heap.size → (
       R (.agg #[.int .i64 (7 : Int), .int .i64 (0 : Int), .string (⟨#[]⟩ : ByteArray), .string (⟨#[]⟩ : ByteArray), .int .i64 (0 : Int), .slice (some (⟨w_10.heap.size, 0, none⟩ : Addr)) 1 1]) w_18))))))))))))))))))))))))))
     ∧ (
      r_take = false → (
      -- umlautref17.go:328
      -- umlautref17.go:329
      Calls Try.prog 36 #[.pointer (some p), .string (⟨#[78, 79, 84]⟩ : ByteArray)] w_10 fun (e : Ending) (w_19 : World) => (
      ∃ r_is_1 : Bool,
      e = .returned (.bool r_is_1) ∧ (
      (b4 < w_10.heap.size → w_19.heap[b4]? = w_10.heap[b4]?) ∧ (
      (b_a < w_10.heap.size → w_19.heap[b_a]? = w_10.heap[b_a]?) ∧ (
      -- CUT 59: not
      ∃ J : Int → World → Prop,
      (
       (
        r_is_1 = true → (
        -- umlautref17.go:330
        ∃ t61 : Int,
        w_19.cell? (p.add 1) = some (.int .i64 t61) ∧ (
        (p.add 1).block ≠ b4 ∧ (
        (p.add 1).block ≠ b_a ∧ (
        (w_19.cell? (p.add 1)).isSome = true ∧ (
        w_19.frozen? (p.add 1) = false ∧ (
        -- umlautref17.go:331
        J (1 : Int) (w_19.setCell (p.add 1) (.int .i64 (IntKind.i64.wrap (t61 + (1 : Int))))))))))))
       ∧ (
        r_is_1 = false → (
        J (0 : Int) w_19)))
      ∧ (
       ∀ (not_1 : Int),
       ∀ w_20 : World,
       J not_1 w_20 → (
       -- umlautref17.go:334
       Calls Try.prog 40 #[.pointer (some p), .string (⟨#[76, 73, 75, 69]⟩ : ByteArray)] w_20 fun (e : Ending) (w_21 : World) => (
       ∃ r_take_2 : Bool,
       e = .returned (.bool r_take_2) ∧ (
       (b4 < w_20.heap.size → w_21.heap[b4]? = w_20.heap[b4]?) ∧ (
       (b_a < w_20.heap.size → w_21.heap[b_a]? = w_20.heap[b_a]?) ∧ (
       (
        r_take_2 = true → (
        -- umlautref17.go:335 (draws)
        ∀ w_22 : World,
        Vc.Fr (fun k => k = b4 ∨ k = b_a) w_21 w_22 → (
        b4 < w_22.heap.size → (
        b_a < w_22.heap.size → (
        ∃ M_1 : Nat → Prop,
        (
         Calls Try.prog 30 #[.pointer (some p), .int .i64 (5 : Int)] w_22 fun (e : Ending) (w_23 : World) => (
         ∃ r_Expr_Kind_1 : Int,
         ∃ r_Expr_Op_1 : Int,
         ∃ r_Expr_S_1 : ByteArray,
         ∃ r_Expr_T_1 : ByteArray,
         ∃ r_Expr_N_1 : Int,
         ∃ (r_Expr_L_1 : Option Addr) (r_Expr_L_len_1 r_Expr_L_cap_1 : Nat),
         e = .returned (.agg #[.int .i64 r_Expr_Kind_1, .int .i64 r_Expr_Op_1, .string r_Expr_S_1, .string r_Expr_T_1, .int .i64 r_Expr_N_1, .slice r_Expr_L_1 r_Expr_L_len_1 r_Expr_L_cap_1]) ∧ (
         (b4 < w_22.heap.size → w_23.heap[b4]? = w_22.heap[b4]?) ∧ (
         (b_a < w_22.heap.size → w_23.heap[b_a]? = w_22.heap[b_a]?) ∧ (
         Vc.Fr (fun k => M_1 k ∨ (False)) w_22 w_23 ∧ (
         (
          ∀ w_24 : World,
          w_24 = w_23.alloc (.cells #[.int .i64 a_Kind, .int .i64 a_Op, .string a_S, .string a_T, .int .i64 a_N, .slice a_L a_L_len a_L_cap, .int .i64 r_Expr_Kind_1, .int .i64 r_Expr_Op_1, .string r_Expr_S_1, .string r_Expr_T_1, .int .i64 r_Expr_N_1, .slice r_Expr_L_1 r_Expr_L_len_1 r_Expr_L_cap_1] 24) → (
          Vc.Fr (fun k => M_1 k ∨ (False)) w_22 w_24 ∧ (
          ∀ b_n_1 : Nat,
          w_24.heap.size ≤ b_n_1 → (
          b_n_1 ≠ b4 → (
          b_n_1 ≠ b_a → (
          -- umlautref17.go:336
          ∀ w_25 : World,
          Vc.Fr (fun k => k = b_n_1 ∨ k = b4 ∨ k = b_a) w_24 w_25 → (
          b_n_1 < w_25.heap.size → (
          b4 < w_25.heap.size → (
          b_a < w_25.heap.size → (
          Calls Try.prog 40 #[.pointer (some p), .string (⟨#[69, 83, 67, 65, 80, 69]⟩ : ByteArray)] w_25 fun (e : Ending) (w_26 : World) => (
          ∃ r_take_3 : Bool,
          e = .returned (.bool r_take_3) ∧ (
          (b_n_1 < w_25.heap.size → w_26.heap[b_n_1]? = w_25.heap[b_n_1]?) ∧ (
          (b4 < w_25.heap.size → w_26.heap[b4]? = w_25.heap[b4]?) ∧ (
          (b_a < w_25.heap.size → w_26.heap[b_a]? = w_25.heap[b_a]?) ∧ (
          (
           r_take_3 = true → (
           -- umlautref17.go:337 (draws)
           ∀ w_27 : World,
           Vc.Fr (fun k => k = b_n_1 ∨ k = b4 ∨ k = b_a) w_26 w_27 → (
           b_n_1 < w_27.heap.size → (
           b4 < w_27.heap.size → (
           b_a < w_27.heap.size → (
           ∃ M_2 : Nat → Prop,
           (
            Calls Try.prog 30 #[.pointer (some p), .int .i64 (5 : Int)] w_27 fun (e : Ending) (w_28 : World) => (
            ∃ r_Expr_Kind_2 : Int,
            ∃ r_Expr_Op_2 : Int,
            ∃ r_Expr_S_2 : ByteArray,
            ∃ r_Expr_T_2 : ByteArray,
            ∃ r_Expr_N_2 : Int,
            ∃ (r_Expr_L_2 : Option Addr) (r_Expr_L_len_2 r_Expr_L_cap_2 : Nat),
            e = .returned (.agg #[.int .i64 r_Expr_Kind_2, .int .i64 r_Expr_Op_2, .string r_Expr_S_2, .string r_Expr_T_2, .int .i64 r_Expr_N_2, .slice r_Expr_L_2 r_Expr_L_len_2 r_Expr_L_cap_2]) ∧ (
            (b_n_1 < w_27.heap.size → w_28.heap[b_n_1]? = w_27.heap[b_n_1]?) ∧ (
            (b4 < w_27.heap.size → w_28.heap[b4]? = w_27.heap[b4]?) ∧ (
            (b_a < w_27.heap.size → w_28.heap[b_a]? = w_27.heap[b_a]?) ∧ (
            Vc.Fr (fun k => M_2 k ∨ (k = b_n_1)) w_27 w_28 ∧ (
            ∀ w_29 : World,
            w_29 = w_28.alloc (.cells #[.int .i64 r_Expr_Kind_2, .int .i64 r_Expr_Op_2, .string r_Expr_S_2, .string r_Expr_T_2, .int .i64 r_Expr_N_2, .slice r_Expr_L_2 r_Expr_L_len_2 r_Expr_L_cap_2] 24) → (
            Vc.Fr (fun k => M_2 k ∨ (k = b_n_1)) w_27 w_29 ∧ (
            ∃ (t81 : Option Addr) (t81_len t81_cap : Nat),
            ∃ w_30 : World,
            (Builtin.append_ #[22, 22] 22 #[.slice (some (⟨w_23.heap.size, 0, none⟩ : Addr)) 2 2, .slice (some (⟨w_28.heap.size, 0, none⟩ : Addr)) 1 1]).run Try.prog w_29 = .ok (.slice t81 t81_len t81_cap) w_30 ∧ (
            (b_n_1 < w_29.heap.size → w_30.heap[b_n_1]? = w_29.heap[b_n_1]?) ∧ (
            (b4 < w_29.heap.size → w_30.heap[b4]? = w_29.heap[b4]?) ∧ (
            (b_a < w_29.heap.size → w_30.heap[b_a]? = w_29.heap[b_a]?) ∧ (
            Vc.Fr (fun k => M_2 k ∨ (k = b_n_1)) w_27 w_30 ∧ (
            -- umlautref17.go:339
            ∀ w_31 : World,
            Vc.Fr (fun k => k = b_n_1 ∨ k = b4 ∨ k = b_a) w_30 w_31 → (
            b_n_1 < w_31.heap.size → (
            b4 < w_31.heap.size → (
            b_a < w_31.heap.size → (
            R (.agg #[.int .i64 (8 : Int), .int .i64 (0 : Int), .string (⟨#[]⟩ : ByteArray), .string (⟨#[]⟩ : ByteArray), .int .i64 not_1, .slice t81 t81_len t81_cap]) w_31))))))))))))))))))
           ∧ (
            Calls Try.prog 30 #[.pointer (some p), .int .i64 (5 : Int)] w_27 fun (e : Ending) (w_32 : World) => (
            ∃ r_Expr_Kind_3 : Int,
            ∃ r_Expr_Op_3 : Int,
            ∃ r_Expr_S_3 : ByteArray,
            ∃ r_Expr_T_3 : ByteArray,
            ∃ r_Expr_N_3 : Int,
            ∃ (r_Expr_L_3 : Option Addr) (r_Expr_L_len_3 r_Expr_L_cap_3 : Nat),
            e = .returned (.agg #[.int .i64 r_Expr_Kind_3, .int .i64 r_Expr_Op_3, .string r_Expr_S_3, .string r_Expr_T_3, .int .i64 r_Expr_N_3, .slice r_Expr_L_3 r_Expr_L_len_3 r_Expr_L_cap_3]) ∧ (
            (b_n_1 < w_27.heap.size → w_32.heap[b_n_1]? = w_27.heap[b_n_1]?) ∧ (
            (b4 < w_27.heap.size → w_32.heap[b4]? = w_27.heap[b4]?) ∧ (
            (b_a < w_27.heap.size → w_32.heap[b_a]? = w_27.heap[b_a]?) ∧ (
            Vc.Fr (fun k => M_2 k ∨ (k = b_n_1)) w_27 w_32 ∧ (
            (
             ∀ w_33 : World,
             w_33 = w_32.alloc (.cells #[.int .i64 r_Expr_Kind_3, .int .i64 r_Expr_Op_3, .string r_Expr_S_3, .string r_Expr_T_3, .int .i64 r_Expr_N_3, .slice r_Expr_L_3 r_Expr_L_len_3 r_Expr_L_cap_3] 24) → (
             Vc.Fr (fun k => M_2 k ∨ (k = b_n_1)) w_27 w_33 ∧ (
             ∃ (t81_1 : Option Addr) (t81_len_1 t81_cap_1 : Nat),
             ∃ w_34 : World,
             (Builtin.append_ #[22, 22] 22 #[.slice (some (⟨w_23.heap.size, 0, none⟩ : Addr)) 2 2, .slice (some (⟨w_32.heap.size, 0, none⟩ : Addr)) 1 1]).run Try.prog w_33 = .ok (.slice t81_1 t81_len_1 t81_cap_1) w_34 ∧ (
             (b_n_1 < w_33.heap.size → w_34.heap[b_n_1]? = w_33.heap[b_n_1]?) ∧ (
             (b4 < w_33.heap.size → w_34.heap[b4]? = w_33.heap[b4]?) ∧ (
             (b_a < w_33.heap.size → w_34.heap[b_a]? = w_33.heap[b_a]?) ∧ (
             Vc.Fr (fun k => M_2 k ∨ (k = b_n_1)) w_27 w_34 ∧ (
             -- umlautref17.go:339
             ∀ w_35 : World,
             Vc.Fr (fun k => k = b_n_1 ∨ k = b4 ∨ k = b_a) w_34 w_35 → (
             b_n_1 < w_35.heap.size → (
             b4 < w_35.heap.size → (
             b_a < w_35.heap.size → (
             R (.agg #[.int .i64 (8 : Int), .int .i64 (0 : Int), .string (⟨#[]⟩ : ByteArray), .string (⟨#[]⟩ : ByteArray), .int .i64 not_1, .slice t81_1 t81_len_1 t81_cap_1]) w_35))))))))))))
            ∧ (
             ∀ w_36 : World,
             w_36 = w_32.alloc (.cells #[.int .i64 r_Expr_Kind_3, .int .i64 r_Expr_Op_3, .string r_Expr_S_3, .string r_Expr_T_3, .int .i64 r_Expr_N_3, .slice r_Expr_L_3 r_Expr_L_len_3 r_Expr_L_cap_3] 24) → (
             Vc.Fr (fun k => M_2 k ∨ (k = b_n_1)) w_27 w_36 ∧ (
             ∃ (t81_2 : Option Addr) (t81_len_2 t81_cap_2 : Nat),
             ∃ w_37 : World,
             (Builtin.append_ #[22, 22] 22 #[.slice (some (⟨w_23.heap.size, 0, none⟩ : Addr)) 2 2, .slice (some (⟨w_32.heap.size, 0, none⟩ : Addr)) 1 1]).run Try.prog w_36 = .ok (.slice t81_2 t81_len_2 t81_cap_2) w_37 ∧ (
             (b_n_1 < w_36.heap.size → w_37.heap[b_n_1]? = w_36.heap[b_n_1]?) ∧ (
             (b4 < w_36.heap.size → w_37.heap[b4]? = w_36.heap[b4]?) ∧ (
             (b_a < w_36.heap.size → w_37.heap[b_a]? = w_36.heap[b_a]?) ∧ (
             Vc.Fr (fun k => M_2 k ∨ (k = b_n_1)) w_27 w_37 ∧ (
             -- umlautref17.go:339
             ∀ w_38 : World,
             Vc.Fr (fun k => k = b_n_1 ∨ k = b4 ∨ k = b_a) w_37 w_38 → (
             b_n_1 < w_38.heap.size → (
             b4 < w_38.heap.size → (
             b_a < w_38.heap.size → (
             R (.agg #[.int .i64 (8 : Int), .int .i64 (0 : Int), .string (⟨#[]⟩ : ByteArray), .string (⟨#[]⟩ : ByteArray), .int .i64 not_1, .slice t81_2 t81_len_2 t81_cap_2]) w_38)))))))))))))))))))))))))
          ∧ (
           r_take_3 = false → (
           -- umlautref17.go:339
           ∀ w_39 : World,
           Vc.Fr (fun k => k = b_n_1 ∨ k = b4 ∨ k = b_a) w_26 w_39 → (
           b_n_1 < w_39.heap.size → (
           b4 < w_39.heap.size → (
           b_a < w_39.heap.size → (
           R (.agg #[.int .i64 (8 : Int), .int .i64 (0 : Int), .string (⟨#[]⟩ : ByteArray), .string (⟨#[]⟩ : ByteArray), .int .i64 not_1, .slice (some (⟨w_23.heap.size, 0, none⟩ : Addr)) 2 2]) w_39)))))))))))))))))))))
         ∧ (
          ∀ b_n_2 : Nat,
          w_23.heap.size ≤ b_n_2 → (
          b_n_2 ≠ b4 → (
          b_n_2 ≠ b_a → (
          ∀ w_40 : World,
          Vc.Fr (fun k => k = b_n_2 ∨ k = b4 ∨ k = b_a) w_23 w_40 → (
          b_n_2 < w_40.heap.size → (
          b4 < w_40.heap.size → (
          b_a < w_40.heap.size → (
          ∀ w_41 : World,
          w_41 = w_40.alloc (.cells #[.int .i64 a_Kind, .int .i64 a_Op, .string a_S, .string a_T, .int .i64 a_N, .slice a_L a_L_len a_L_cap, .int .i64 r_Expr_Kind_1, .int .i64 r_Expr_Op_1, .string r_Expr_S_1, .string r_Expr_T_1, .int .i64 r_Expr_N_1, .slice r_Expr_L_1 r_Expr_L_len_1 r_Expr_L_cap_1] 24) → (
          Vc.Fr (fun k => M_1 k ∨ (False)) w_22 w_41 ∧ (
          -- umlautref17.go:336
          ∀ w_42 : World,
          Vc.Fr (fun k => k = b_n_2 ∨ k = b4 ∨ k = b_a) w_41 w_42 → (
          b_n_2 < w_42.heap.size → (
          b4 < w_42.heap.size → (
          b_a < w_42.heap.size → (
          Calls Try.prog 40 #[.pointer (some p), .string (⟨#[69, 83, 67, 65, 80, 69]⟩ : ByteArray)] w_42 fun (e : Ending) (w_43 : World) => (
          ∃ r_take_4 : Bool,
          e = .returned (.bool r_take_4) ∧ (
          (b_n_2 < w_42.heap.size → w_43.heap[b_n_2]? = w_42.heap[b_n_2]?) ∧ (
          (b4 < w_42.heap.size → w_43.heap[b4]? = w_42.heap[b4]?) ∧ (
          (b_a < w_42.heap.size → w_43.heap[b_a]? = w_42.heap[b_a]?) ∧ (
          (
           r_take_4 = true → (
           -- umlautref17.go:337 (draws)
           ∀ w_44 : World,
           Vc.Fr (fun k => k = b_n_2 ∨ k = b4 ∨ k = b_a) w_43 w_44 → (
           b_n_2 < w_44.heap.size → (
           b4 < w_44.heap.size → (
           b_a < w_44.heap.size → (
           ∃ M_3 : Nat → Prop,
           (
            Calls Try.prog 30 #[.pointer (some p), .int .i64 (5 : Int)] w_44 fun (e : Ending) (w_45 : World) => (
            ∃ r_Expr_Kind_4 : Int,
            ∃ r_Expr_Op_4 : Int,
            ∃ r_Expr_S_4 : ByteArray,
            ∃ r_Expr_T_4 : ByteArray,
            ∃ r_Expr_N_4 : Int,
            ∃ (r_Expr_L_4 : Option Addr) (r_Expr_L_len_4 r_Expr_L_cap_4 : Nat),
            e = .returned (.agg #[.int .i64 r_Expr_Kind_4, .int .i64 r_Expr_Op_4, .string r_Expr_S_4, .string r_Expr_T_4, .int .i64 r_Expr_N_4, .slice r_Expr_L_4 r_Expr_L_len_4 r_Expr_L_cap_4]) ∧ (
            (b_n_2 < w_44.heap.size → w_45.heap[b_n_2]? = w_44.heap[b_n_2]?) ∧ (
            (b4 < w_44.heap.size → w_45.heap[b4]? = w_44.heap[b4]?) ∧ (
            (b_a < w_44.heap.size → w_45.heap[b_a]? = w_44.heap[b_a]?) ∧ (
            Vc.Fr (fun k => M_3 k ∨ (k = b_n_2)) w_44 w_45 ∧ (
            ∀ w_46 : World,
            w_46 = w_45.alloc (.cells #[.int .i64 r_Expr_Kind_4, .int .i64 r_Expr_Op_4, .string r_Expr_S_4, .string r_Expr_T_4, .int .i64 r_Expr_N_4, .slice r_Expr_L_4 r_Expr_L_len_4 r_Expr_L_cap_4] 24) → (
            Vc.Fr (fun k => M_3 k ∨ (k = b_n_2)) w_44 w_46 ∧ (
            ∃ (t81_3 : Option Addr) (t81_len_3 t81_cap_3 : Nat),
            ∃ w_47 : World,
            (Builtin.append_ #[22, 22] 22 #[.slice (some (⟨w_40.heap.size, 0, none⟩ : Addr)) 2 2, .slice (some (⟨w_45.heap.size, 0, none⟩ : Addr)) 1 1]).run Try.prog w_46 = .ok (.slice t81_3 t81_len_3 t81_cap_3) w_47 ∧ (
            (b_n_2 < w_46.heap.size → w_47.heap[b_n_2]? = w_46.heap[b_n_2]?) ∧ (
            (b4 < w_46.heap.size → w_47.heap[b4]? = w_46.heap[b4]?) ∧ (
            (b_a < w_46.heap.size → w_47.heap[b_a]? = w_46.heap[b_a]?) ∧ (
            Vc.Fr (fun k => M_3 k ∨ (k = b_n_2)) w_44 w_47 ∧ (
            -- umlautref17.go:339
            ∀ w_48 : World,
            Vc.Fr (fun k => k = b_n_2 ∨ k = b4 ∨ k = b_a) w_47 w_48 → (
            b_n_2 < w_48.heap.size → (
            b4 < w_48.heap.size → (
            b_a < w_48.heap.size → (
            R (.agg #[.int .i64 (8 : Int), .int .i64 (0 : Int), .string (⟨#[]⟩ : ByteArray), .string (⟨#[]⟩ : ByteArray), .int .i64 not_1, .slice t81_3 t81_len_3 t81_cap_3]) w_48))))))))))))))))))
           ∧ (
            Calls Try.prog 30 #[.pointer (some p), .int .i64 (5 : Int)] w_44 fun (e : Ending) (w_49 : World) => (
            ∃ r_Expr_Kind_5 : Int,
            ∃ r_Expr_Op_5 : Int,
            ∃ r_Expr_S_5 : ByteArray,
            ∃ r_Expr_T_5 : ByteArray,
            ∃ r_Expr_N_5 : Int,
            ∃ (r_Expr_L_5 : Option Addr) (r_Expr_L_len_5 r_Expr_L_cap_5 : Nat),
            e = .returned (.agg #[.int .i64 r_Expr_Kind_5, .int .i64 r_Expr_Op_5, .string r_Expr_S_5, .string r_Expr_T_5, .int .i64 r_Expr_N_5, .slice r_Expr_L_5 r_Expr_L_len_5 r_Expr_L_cap_5]) ∧ (
            (b_n_2 < w_44.heap.size → w_49.heap[b_n_2]? = w_44.heap[b_n_2]?) ∧ (
            (b4 < w_44.heap.size → w_49.heap[b4]? = w_44.heap[b4]?) ∧ (
            (b_a < w_44.heap.size → w_49.heap[b_a]? = w_44.heap[b_a]?) ∧ (
            Vc.Fr (fun k => M_3 k ∨ (k = b_n_2)) w_44 w_49 ∧ (
            (
             ∀ w_50 : World,
             w_50 = w_49.alloc (.cells #[.int .i64 r_Expr_Kind_5, .int .i64 r_Expr_Op_5, .string r_Expr_S_5, .string r_Expr_T_5, .int .i64 r_Expr_N_5, .slice r_Expr_L_5 r_Expr_L_len_5 r_Expr_L_cap_5] 24) → (
             Vc.Fr (fun k => M_3 k ∨ (k = b_n_2)) w_44 w_50 ∧ (
             ∃ (t81_4 : Option Addr) (t81_len_4 t81_cap_4 : Nat),
             ∃ w_51 : World,
             (Builtin.append_ #[22, 22] 22 #[.slice (some (⟨w_40.heap.size, 0, none⟩ : Addr)) 2 2, .slice (some (⟨w_49.heap.size, 0, none⟩ : Addr)) 1 1]).run Try.prog w_50 = .ok (.slice t81_4 t81_len_4 t81_cap_4) w_51 ∧ (
             (b_n_2 < w_50.heap.size → w_51.heap[b_n_2]? = w_50.heap[b_n_2]?) ∧ (
             (b4 < w_50.heap.size → w_51.heap[b4]? = w_50.heap[b4]?) ∧ (
             (b_a < w_50.heap.size → w_51.heap[b_a]? = w_50.heap[b_a]?) ∧ (
             Vc.Fr (fun k => M_3 k ∨ (k = b_n_2)) w_44 w_51 ∧ (
             -- umlautref17.go:339
             ∀ w_52 : World,
             Vc.Fr (fun k => k = b_n_2 ∨ k = b4 ∨ k = b_a) w_51 w_52 → (
             b_n_2 < w_52.heap.size → (
             b4 < w_52.heap.size → (
             b_a < w_52.heap.size → (
             R (.agg #[.int .i64 (8 : Int), .int .i64 (0 : Int), .string (⟨#[]⟩ : ByteArray), .string (⟨#[]⟩ : ByteArray), .int .i64 not_1, .slice t81_4 t81_len_4 t81_cap_4]) w_52))))))))))))
            ∧ (
             ∀ w_53 : World,
             w_53 = w_49.alloc (.cells #[.int .i64 r_Expr_Kind_5, .int .i64 r_Expr_Op_5, .string r_Expr_S_5, .string r_Expr_T_5, .int .i64 r_Expr_N_5, .slice r_Expr_L_5 r_Expr_L_len_5 r_Expr_L_cap_5] 24) → (
             Vc.Fr (fun k => M_3 k ∨ (k = b_n_2)) w_44 w_53 ∧ (
             ∃ (t81_5 : Option Addr) (t81_len_5 t81_cap_5 : Nat),
             ∃ w_54 : World,
             (Builtin.append_ #[22, 22] 22 #[.slice (some (⟨w_40.heap.size, 0, none⟩ : Addr)) 2 2, .slice (some (⟨w_49.heap.size, 0, none⟩ : Addr)) 1 1]).run Try.prog w_53 = .ok (.slice t81_5 t81_len_5 t81_cap_5) w_54 ∧ (
             (b_n_2 < w_53.heap.size → w_54.heap[b_n_2]? = w_53.heap[b_n_2]?) ∧ (
             (b4 < w_53.heap.size → w_54.heap[b4]? = w_53.heap[b4]?) ∧ (
             (b_a < w_53.heap.size → w_54.heap[b_a]? = w_53.heap[b_a]?) ∧ (
             Vc.Fr (fun k => M_3 k ∨ (k = b_n_2)) w_44 w_54 ∧ (
             -- umlautref17.go:339
             ∀ w_55 : World,
             Vc.Fr (fun k => k = b_n_2 ∨ k = b4 ∨ k = b_a) w_54 w_55 → (
             b_n_2 < w_55.heap.size → (
             b4 < w_55.heap.size → (
             b_a < w_55.heap.size → (
             R (.agg #[.int .i64 (8 : Int), .int .i64 (0 : Int), .string (⟨#[]⟩ : ByteArray), .string (⟨#[]⟩ : ByteArray), .int .i64 not_1, .slice t81_5 t81_len_5 t81_cap_5]) w_55)))))))))))))))))))))))))
          ∧ (
           r_take_4 = false → (
           -- umlautref17.go:339
           ∀ w_56 : World,
           Vc.Fr (fun k => k = b_n_2 ∨ k = b4 ∨ k = b_a) w_43 w_56 → (
           b_n_2 < w_56.heap.size → (
           b4 < w_56.heap.size → (
           b_a < w_56.heap.size → (
           R (.agg #[.int .i64 (8 : Int), .int .i64 (0 : Int), .string (⟨#[]⟩ : ByteArray), .string (⟨#[]⟩ : ByteArray), .int .i64 not_1, .slice (some (⟨w_40.heap.size, 0, none⟩ : Addr)) 2 2]) w_56)))))))))))))))))))))))))))))))
        ∧ (
         ∀ b_n_3 : Nat,
         w_22.heap.size ≤ b_n_3 → (
         b_n_3 ≠ b4 → (
         b_n_3 ≠ b_a → (
         ∀ w_57 : World,
         Vc.Fr (fun k => k = b_n_3 ∨ k = b4 ∨ k = b_a) w_22 w_57 → (
         b_n_3 < w_57.heap.size → (
         b4 < w_57.heap.size → (
         b_a < w_57.heap.size → (
         Calls Try.prog 30 #[.pointer (some p), .int .i64 (5 : Int)] w_57 fun (e : Ending) (w_58 : World) => (
         ∃ r_Expr_Kind_6 : Int,
         ∃ r_Expr_Op_6 : Int,
         ∃ r_Expr_S_6 : ByteArray,
         ∃ r_Expr_T_6 : ByteArray,
         ∃ r_Expr_N_6 : Int,
         ∃ (r_Expr_L_6 : Option Addr) (r_Expr_L_len_6 r_Expr_L_cap_6 : Nat),
         e = .returned (.agg #[.int .i64 r_Expr_Kind_6, .int .i64 r_Expr_Op_6, .string r_Expr_S_6, .string r_Expr_T_6, .int .i64 r_Expr_N_6, .slice r_Expr_L_6 r_Expr_L_len_6 r_Expr_L_cap_6]) ∧ (
         (b_n_3 < w_57.heap.size → w_58.heap[b_n_3]? = w_57.heap[b_n_3]?) ∧ (
         (b4 < w_57.heap.size → w_58.heap[b4]? = w_57.heap[b4]?) ∧ (
         (b_a < w_57.heap.size → w_58.heap[b_a]? = w_57.heap[b_a]?) ∧ (
         Vc.Fr (fun k => M_1 k ∨ (False)) w_22 w_58 ∧ (
         ∀ w_59 : World,
         w_59 = w_58.alloc (.cells #[.int .i64 a_Kind, .int .i64 a_Op, .string a_S, .string a_T, .int .i64 a_N, .slice a_L a_L_len a_L_cap, .int .i64 r_Expr_Kind_6, .int .i64 r_Expr_Op_6, .string r_Expr_S_6, .string r_Expr_T_6, .int .i64 r_Expr_N_6, .slice r_Expr_L_6 r_Expr_L_len_6 r_Expr_L_cap_6] 24) → (
         Vc.Fr (fun k => M_1 k ∨ (False)) w_22 w_59 ∧ (
         -- umlautref17.go:336
         ∀ w_60 : World,
         Vc.Fr (fun k => k = b_n_3 ∨ k = b4 ∨ k = b_a) w_59 w_60 → (
         b_n_3 < w_60.heap.size → (
         b4 < w_60.heap.size → (
         b_a < w_60.heap.size → (
         Calls Try.prog 40 #[.pointer (some p), .string (⟨#[69, 83, 67, 65, 80, 69]⟩ : ByteArray)] w_60 fun (e : Ending) (w_61 : World) => (
         ∃ r_take_5 : Bool,
         e = .returned (.bool r_take_5) ∧ (
         (b_n_3 < w_60.heap.size → w_61.heap[b_n_3]? = w_60.heap[b_n_3]?) ∧ (
         (b4 < w_60.heap.size → w_61.heap[b4]? = w_60.heap[b4]?) ∧ (
         (b_a < w_60.heap.size → w_61.heap[b_a]? = w_60.heap[b_a]?) ∧ (
         (
          r_take_5 = true → (
          -- umlautref17.go:337 (draws)
          ∀ w_62 : World,
          Vc.Fr (fun k => k = b_n_3 ∨ k = b4 ∨ k = b_a) w_61 w_62 → (
          b_n_3 < w_62.heap.size → (
          b4 < w_62.heap.size → (
          b_a < w_62.heap.size → (
          ∃ M_4 : Nat → Prop,
          (
           Calls Try.prog 30 #[.pointer (some p), .int .i64 (5 : Int)] w_62 fun (e : Ending) (w_63 : World) => (
           ∃ r_Expr_Kind_7 : Int,
           ∃ r_Expr_Op_7 : Int,
           ∃ r_Expr_S_7 : ByteArray,
           ∃ r_Expr_T_7 : ByteArray,
           ∃ r_Expr_N_7 : Int,
           ∃ (r_Expr_L_7 : Option Addr) (r_Expr_L_len_7 r_Expr_L_cap_7 : Nat),
           e = .returned (.agg #[.int .i64 r_Expr_Kind_7, .int .i64 r_Expr_Op_7, .string r_Expr_S_7, .string r_Expr_T_7, .int .i64 r_Expr_N_7, .slice r_Expr_L_7 r_Expr_L_len_7 r_Expr_L_cap_7]) ∧ (
           (b_n_3 < w_62.heap.size → w_63.heap[b_n_3]? = w_62.heap[b_n_3]?) ∧ (
           (b4 < w_62.heap.size → w_63.heap[b4]? = w_62.heap[b4]?) ∧ (
           (b_a < w_62.heap.size → w_63.heap[b_a]? = w_62.heap[b_a]?) ∧ (
           Vc.Fr (fun k => M_4 k ∨ (k = b_n_3)) w_62 w_63 ∧ (
           ∀ w_64 : World,
           w_64 = w_63.alloc (.cells #[.int .i64 r_Expr_Kind_7, .int .i64 r_Expr_Op_7, .string r_Expr_S_7, .string r_Expr_T_7, .int .i64 r_Expr_N_7, .slice r_Expr_L_7 r_Expr_L_len_7 r_Expr_L_cap_7] 24) → (
           Vc.Fr (fun k => M_4 k ∨ (k = b_n_3)) w_62 w_64 ∧ (
           ∃ (t81_6 : Option Addr) (t81_len_6 t81_cap_6 : Nat),
           ∃ w_65 : World,
           (Builtin.append_ #[22, 22] 22 #[.slice (some (⟨w_58.heap.size, 0, none⟩ : Addr)) 2 2, .slice (some (⟨w_63.heap.size, 0, none⟩ : Addr)) 1 1]).run Try.prog w_64 = .ok (.slice t81_6 t81_len_6 t81_cap_6) w_65 ∧ (
           (b_n_3 < w_64.heap.size → w_65.heap[b_n_3]? = w_64.heap[b_n_3]?) ∧ (
           (b4 < w_64.heap.size → w_65.heap[b4]? = w_64.heap[b4]?) ∧ (
           (b_a < w_64.heap.size → w_65.heap[b_a]? = w_64.heap[b_a]?) ∧ (
           Vc.Fr (fun k => M_4 k ∨ (k = b_n_3)) w_62 w_65 ∧ (
           -- umlautref17.go:339
           ∀ w_66 : World,
           Vc.Fr (fun k => k = b_n_3 ∨ k = b4 ∨ k = b_a) w_65 w_66 → (
           b_n_3 < w_66.heap.size → (
           b4 < w_66.heap.size → (
           b_a < w_66.heap.size → (
           R (.agg #[.int .i64 (8 : Int), .int .i64 (0 : Int), .string (⟨#[]⟩ : ByteArray), .string (⟨#[]⟩ : ByteArray), .int .i64 not_1, .slice t81_6 t81_len_6 t81_cap_6]) w_66))))))))))))))))))
          ∧ (
           Calls Try.prog 30 #[.pointer (some p), .int .i64 (5 : Int)] w_62 fun (e : Ending) (w_67 : World) => (
           ∃ r_Expr_Kind_8 : Int,
           ∃ r_Expr_Op_8 : Int,
           ∃ r_Expr_S_8 : ByteArray,
           ∃ r_Expr_T_8 : ByteArray,
           ∃ r_Expr_N_8 : Int,
           ∃ (r_Expr_L_8 : Option Addr) (r_Expr_L_len_8 r_Expr_L_cap_8 : Nat),
           e = .returned (.agg #[.int .i64 r_Expr_Kind_8, .int .i64 r_Expr_Op_8, .string r_Expr_S_8, .string r_Expr_T_8, .int .i64 r_Expr_N_8, .slice r_Expr_L_8 r_Expr_L_len_8 r_Expr_L_cap_8]) ∧ (
           (b_n_3 < w_62.heap.size → w_67.heap[b_n_3]? = w_62.heap[b_n_3]?) ∧ (
           (b4 < w_62.heap.size → w_67.heap[b4]? = w_62.heap[b4]?) ∧ (
           (b_a < w_62.heap.size → w_67.heap[b_a]? = w_62.heap[b_a]?) ∧ (
           Vc.Fr (fun k => M_4 k ∨ (k = b_n_3)) w_62 w_67 ∧ (
           (
            ∀ w_68 : World,
            w_68 = w_67.alloc (.cells #[.int .i64 r_Expr_Kind_8, .int .i64 r_Expr_Op_8, .string r_Expr_S_8, .string r_Expr_T_8, .int .i64 r_Expr_N_8, .slice r_Expr_L_8 r_Expr_L_len_8 r_Expr_L_cap_8] 24) → (
            Vc.Fr (fun k => M_4 k ∨ (k = b_n_3)) w_62 w_68 ∧ (
            ∃ (t81_7 : Option Addr) (t81_len_7 t81_cap_7 : Nat),
            ∃ w_69 : World,
            (Builtin.append_ #[22, 22] 22 #[.slice (some (⟨w_58.heap.size, 0, none⟩ : Addr)) 2 2, .slice (some (⟨w_67.heap.size, 0, none⟩ : Addr)) 1 1]).run Try.prog w_68 = .ok (.slice t81_7 t81_len_7 t81_cap_7) w_69 ∧ (
            (b_n_3 < w_68.heap.size → w_69.heap[b_n_3]? = w_68.heap[b_n_3]?) ∧ (
            (b4 < w_68.heap.size → w_69.heap[b4]? = w_68.heap[b4]?) ∧ (
            (b_a < w_68.heap.size → w_69.heap[b_a]? = w_68.heap[b_a]?) ∧ (
            Vc.Fr (fun k => M_4 k ∨ (k = b_n_3)) w_62 w_69 ∧ (
            -- umlautref17.go:339
            ∀ w_70 : World,
            Vc.Fr (fun k => k = b_n_3 ∨ k = b4 ∨ k = b_a) w_69 w_70 → (
            b_n_3 < w_70.heap.size → (
            b4 < w_70.heap.size → (
            b_a < w_70.heap.size → (
            R (.agg #[.int .i64 (8 : Int), .int .i64 (0 : Int), .string (⟨#[]⟩ : ByteArray), .string (⟨#[]⟩ : ByteArray), .int .i64 not_1, .slice t81_7 t81_len_7 t81_cap_7]) w_70))))))))))))
           ∧ (
            ∀ w_71 : World,
            w_71 = w_67.alloc (.cells #[.int .i64 r_Expr_Kind_8, .int .i64 r_Expr_Op_8, .string r_Expr_S_8, .string r_Expr_T_8, .int .i64 r_Expr_N_8, .slice r_Expr_L_8 r_Expr_L_len_8 r_Expr_L_cap_8] 24) → (
            Vc.Fr (fun k => M_4 k ∨ (k = b_n_3)) w_62 w_71 ∧ (
            ∃ (t81_8 : Option Addr) (t81_len_8 t81_cap_8 : Nat),
            ∃ w_72 : World,
            (Builtin.append_ #[22, 22] 22 #[.slice (some (⟨w_58.heap.size, 0, none⟩ : Addr)) 2 2, .slice (some (⟨w_67.heap.size, 0, none⟩ : Addr)) 1 1]).run Try.prog w_71 = .ok (.slice t81_8 t81_len_8 t81_cap_8) w_72 ∧ (
            (b_n_3 < w_71.heap.size → w_72.heap[b_n_3]? = w_71.heap[b_n_3]?) ∧ (
            (b4 < w_71.heap.size → w_72.heap[b4]? = w_71.heap[b4]?) ∧ (
            (b_a < w_71.heap.size → w_72.heap[b_a]? = w_71.heap[b_a]?) ∧ (
            Vc.Fr (fun k => M_4 k ∨ (k = b_n_3)) w_62 w_72 ∧ (
            -- umlautref17.go:339
            ∀ w_73 : World,
            Vc.Fr (fun k => k = b_n_3 ∨ k = b4 ∨ k = b_a) w_72 w_73 → (
            b_n_3 < w_73.heap.size → (
            b4 < w_73.heap.size → (
            b_a < w_73.heap.size → (
            R (.agg #[.int .i64 (8 : Int), .int .i64 (0 : Int), .string (⟨#[]⟩ : ByteArray), .string (⟨#[]⟩ : ByteArray), .int .i64 not_1, .slice t81_8 t81_len_8 t81_cap_8]) w_73)))))))))))))))))))))))))
         ∧ (
          r_take_5 = false → (
          -- umlautref17.go:339
          ∀ w_74 : World,
          Vc.Fr (fun k => k = b_n_3 ∨ k = b4 ∨ k = b_a) w_61 w_74 → (
          b_n_3 < w_74.heap.size → (
          b4 < w_74.heap.size → (
          b_a < w_74.heap.size → (
          R (.agg #[.int .i64 (8 : Int), .int .i64 (0 : Int), .string (⟨#[]⟩ : ByteArray), .string (⟨#[]⟩ : ByteArray), .int .i64 not_1, .slice (some (⟨w_58.heap.size, 0, none⟩ : Addr)) 2 2]) w_74))))))))))))))))))))))))))))))))))))
       ∧ (
        r_take_2 = false → (
        -- umlautref17.go:340
        Calls Try.prog 40 #[.pointer (some p), .string (⟨#[66, 69, 84, 87, 69, 69, 78]⟩ : ByteArray)] w_21 fun (e : Ending) (w_75 : World) => (
        ∃ r_take_6 : Bool,
        e = .returned (.bool r_take_6) ∧ (
        (b4 < w_21.heap.size → w_75.heap[b4]? = w_21.heap[b4]?) ∧ (
        (b_a < w_21.heap.size → w_75.heap[b_a]? = w_21.heap[b_a]?) ∧ (
        (
         r_take_6 = true → (
         -- umlautref17.go:341
         Calls Try.prog 30 #[.pointer (some p), .int .i64 (5 : Int)] w_75 fun (e : Ending) (w_76 : World) => (
         ∃ r_Expr_Kind_9 : Int,
         ∃ r_Expr_Op_9 : Int,
         ∃ r_Expr_S_9 : ByteArray,
         ∃ r_Expr_T_9 : ByteArray,
         ∃ r_Expr_N_9 : Int,
         ∃ (r_Expr_L_9 : Option Addr) (r_Expr_L_len_9 r_Expr_L_cap_9 : Nat),
         e = .returned (.agg #[.int .i64 r_Expr_Kind_9, .int .i64 r_Expr_Op_9, .string r_Expr_S_9, .string r_Expr_T_9, .int .i64 r_Expr_N_9, .slice r_Expr_L_9 r_Expr_L_len_9 r_Expr_L_cap_9]) ∧ (
         (b4 < w_75.heap.size → w_76.heap[b4]? = w_75.heap[b4]?) ∧ (
         (b_a < w_75.heap.size → w_76.heap[b_a]? = w_75.heap[b_a]?) ∧ (
         ∀ b_lo : Nat,
         w_76.heap.size ≤ b_lo → (
         b_lo ≠ b4 → (
         b_lo ≠ b_a → (
         -- umlautref17.go:342
         ∀ w_77 : World,
         Vc.Fr (fun k => k = b_lo ∨ k = b4 ∨ k = b_a) w_76 w_77 → (
         b_lo < w_77.heap.size → (
         b4 < w_77.heap.size → (
         b_a < w_77.heap.size → (
         Calls Try.prog 53 #[.pointer (some p), .string (⟨#[65, 78, 68]⟩ : ByteArray)] w_77 fun (e : Ending) (w_78 : World) => (
         e = .returned (.tuple #[]) ∧ (
         (b_lo < w_77.heap.size → w_78.heap[b_lo]? = w_77.heap[b_lo]?) ∧ (
         (b4 < w_77.heap.size → w_78.heap[b4]? = w_77.heap[b4]?) ∧ (
         (b_a < w_77.heap.size → w_78.heap[b_a]? = w_77.heap[b_a]?) ∧ (
         -- umlautref17.go:343 (draws)
         ∀ w_79 : World,
         Vc.Fr (fun k => k = b_lo ∨ k = b4 ∨ k = b_a) w_78 w_79 → (
         b_lo < w_79.heap.size → (
         b4 < w_79.heap.size → (
         b_a < w_79.heap.size → (
         ∃ M_5 : Nat → Prop,
         Calls Try.prog 30 #[.pointer (some p), .int .i64 (5 : Int)] w_79 fun (e : Ending) (w_80 : World) => (
         ∃ r_Expr_Kind_10 : Int,
         ∃ r_Expr_Op_10 : Int,
         ∃ r_Expr_S_10 : ByteArray,
         ∃ r_Expr_T_10 : ByteArray,
         ∃ r_Expr_N_10 : Int,
         ∃ (r_Expr_L_10 : Option Addr) (r_Expr_L_len_10 r_Expr_L_cap_10 : Nat),
         e = .returned (.agg #[.int .i64 r_Expr_Kind_10, .int .i64 r_Expr_Op_10, .string r_Expr_S_10, .string r_Expr_T_10, .int .i64 r_Expr_N_10, .slice r_Expr_L_10 r_Expr_L_len_10 r_Expr_L_cap_10]) ∧ (
         (b_lo < w_79.heap.size → w_80.heap[b_lo]? = w_79.heap[b_lo]?) ∧ (
         (b4 < w_79.heap.size → w_80.heap[b4]? = w_79.heap[b4]?) ∧ (
         (b_a < w_79.heap.size → w_80.heap[b_a]? = w_79.heap[b_a]?) ∧ (
         Vc.Fr (fun k => M_5 k ∨ (k = b4)) w_79 w_80 ∧ (
         ∀ w_81 : World,
         w_81 = w_80.alloc (.cells #[.int .i64 a_Kind, .int .i64 a_Op, .string a_S, .string a_T, .int .i64 a_N, .slice a_L a_L_len a_L_cap, .int .i64 r_Expr_Kind_9, .int .i64 r_Expr_Op_9, .string r_Expr_S_9, .string r_Expr_T_9, .int .i64 r_Expr_N_9, .slice r_Expr_L_9 r_Expr_L_len_9 r_Expr_L_cap_9, .int .i64 r_Expr_Kind_10, .int .i64 r_Expr_Op_10, .string r_Expr_S_10, .string r_Expr_T_10, .int .i64 r_Expr_N_10, .slice r_Expr_L_10 r_Expr_L_len_10 r_Expr_L_cap_10] 24) → (
         Vc.Fr (fun k => M_5 k ∨ (k = b4)) w_79 w_81 ∧ (
         ∀ w_82 : World,
         Vc.Fr (fun k => k = b_lo ∨ k = b4 ∨ k = b_a) w_81 w_82 → (
         b_lo < w_82.heap.size → (
         b4 < w_82.heap.size → (
         b_a < w_82.heap.size → (
         R (.agg #[.int .i64 (10 : Int), .int .i64 (0 : Int), .string (⟨#[]⟩ : ByteArray), .string (⟨#[]⟩ : ByteArray), .int .i64 not_1, .slice (some (⟨w_80.heap.size, 0, none⟩ : Addr)) 3 3]) w_82))))))))))))))))))))))))))))))))))
        ∧ (
         r_take_6 = false → (
         -- umlautref17.go:344
         Calls Try.prog 36 #[.pointer (some p), .string (⟨#[73, 78]⟩ : ByteArray)] w_75 fun (e : Ending) (w_83 : World) => (
         ∃ r_is_2 : Bool,
         e = .returned (.bool r_is_2) ∧ (
         (b4 < w_75.heap.size → w_83.heap[b4]? = w_75.heap[b4]?) ∧ (
         (b_a < w_75.heap.size → w_83.heap[b_a]? = w_75.heap[b_a]?) ∧ (
         (
          r_is_2 = true → (
          -- umlautref17.go:345
          ∃ t104 : Int,
          w_83.cell? (p.add 1) = some (.int .i64 t104) ∧ (
          (p.add 1).block ≠ b4 ∧ (
          (p.add 1).block ≠ b_a ∧ (
          (w_83.cell? (p.add 1)).isSome = true ∧ (
          w_83.frozen? (p.add 1) = false ∧ (
          -- umlautref17.go:346
          ∀ w_84 : World,
          w_84 = (w_83.setCell (p.add 1) (.int .i64 (IntKind.i64.wrap (t104 + (1 : Int))))).alloc (.cells #[.int .i64 a_Kind, .int .i64 a_Op, .string a_S, .string a_T, .int .i64 a_N, .slice a_L a_L_len a_L_cap] 24) → (
          ∀ b_n_4 : Nat,
          w_84.heap.size ≤ b_n_4 → (
          b_n_4 ≠ b4 → (
          b_n_4 ≠ b_a → (
          -- umlautref17.go:347 (draws)
          ∀ w_85 : World,
          Vc.Fr (fun k => k = b_n_4 ∨ k = b4 ∨ k = b_a) w_84 w_85 → (
          b_n_4 < w_85.heap.size → (
          b4 < w_85.heap.size → (
          b_a < w_85.heap.size → (
          ∃ M_6 : Nat → Prop,
          (
           Calls Try.prog 54 #[.pointer (some p)] w_85 fun (e : Ending) (w_86 : World) => (
           ∃ (r_list : Option Addr) (r_list_len r_list_cap : Nat),
           e = .returned (.slice r_list r_list_len r_list_cap) ∧ (
           (b_n_4 < w_85.heap.size → w_86.heap[b_n_4]? = w_85.heap[b_n_4]?) ∧ (
           (b4 < w_85.heap.size → w_86.heap[b4]? = w_85.heap[b4]?) ∧ (
           (b_a < w_85.heap.size → w_86.heap[b_a]? = w_85.heap[b_a]?) ∧ (
           Vc.Fr (fun k => M_6 k ∨ (k = b_n_4)) w_85 w_86 ∧ (
           ∃ (t116 : Option Addr) (t116_len t116_cap : Nat),
           ∃ w_87 : World,
           (Builtin.append_ #[22, 22] 22 #[.slice (some (⟨(w_83.setCell (p.add 1) (.int .i64 (IntKind.i64.wrap (t104 + (1 : Int))))).heap.size, 0, none⟩ : Addr)) 1 1, .slice r_list r_list_len r_list_cap]).run Try.prog w_86 = .ok (.slice t116 t116_len t116_cap) w_87 ∧ (
           (b_n_4 < w_86.heap.size → w_87.heap[b_n_4]? = w_86.heap[b_n_4]?) ∧ (
           (b4 < w_86.heap.size → w_87.heap[b4]? = w_86.heap[b4]?) ∧ (
           (b_a < w_86.heap.size → w_87.heap[b_a]? = w_86.heap[b_a]?) ∧ (
           Vc.Fr (fun k => M_6 k ∨ (k = b_n_4)) w_85 w_87 ∧ (
           -- umlautref17.go:348
           ∀ w_88 : World,
           Vc.Fr (fun k => k = b_n_4 ∨ k = b4 ∨ k = b_a) w_87 w_88 → (
           b_n_4 < w_88.heap.size → (
           b4 < w_88.heap.size → (
           b_a < w_88.heap.size → (
           R (.agg #[.int .i64 (9 : Int), .int .i64 (0 : Int), .string (⟨#[]⟩ : ByteArray), .string (⟨#[]⟩ : ByteArray), .int .i64 not_1, .slice t116 t116_len t116_cap]) w_88))))))))))))))))
          ∧ (
           Calls Try.prog 54 #[.pointer (some p)] w_85 fun (e : Ending) (w_89 : World) => (
           ∃ (r_list_1 : Option Addr) (r_list_len_1 r_list_cap_1 : Nat),
           e = .returned (.slice r_list_1 r_list_len_1 r_list_cap_1) ∧ (
           (b_n_4 < w_85.heap.size → w_89.heap[b_n_4]? = w_85.heap[b_n_4]?) ∧ (
           (b4 < w_85.heap.size → w_89.heap[b4]? = w_85.heap[b4]?) ∧ (
           (b_a < w_85.heap.size → w_89.heap[b_a]? = w_85.heap[b_a]?) ∧ (
           Vc.Fr (fun k => M_6 k ∨ (k = b_n_4)) w_85 w_89 ∧ (
           ∃ (t116_1 : Option Addr) (t116_len_1 t116_cap_1 : Nat),
           ∃ w_90 : World,
           (Builtin.append_ #[22, 22] 22 #[.slice (some (⟨(w_83.setCell (p.add 1) (.int .i64 (IntKind.i64.wrap (t104 + (1 : Int))))).heap.size, 0, none⟩ : Addr)) 1 1, .slice r_list_1 r_list_len_1 r_list_cap_1]).run Try.prog w_89 = .ok (.slice t116_1 t116_len_1 t116_cap_1) w_90 ∧ (
           (b_n_4 < w_89.heap.size → w_90.heap[b_n_4]? = w_89.heap[b_n_4]?) ∧ (
           (b4 < w_89.heap.size → w_90.heap[b4]? = w_89.heap[b4]?) ∧ (
           (b_a < w_89.heap.size → w_90.heap[b_a]? = w_89.heap[b_a]?) ∧ (
           Vc.Fr (fun k => M_6 k ∨ (k = b_n_4)) w_85 w_90 ∧ (
           -- umlautref17.go:348
           ∀ w_91 : World,
           Vc.Fr (fun k => k = b_n_4 ∨ k = b4 ∨ k = b_a) w_90 w_91 → (
           b_n_4 < w_91.heap.size → (
           b4 < w_91.heap.size → (
           b_a < w_91.heap.size → (
           R (.agg #[.int .i64 (9 : Int), .int .i64 (0 : Int), .string (⟨#[]⟩ : ByteArray), .string (⟨#[]⟩ : ByteArray), .int .i64 not_1, .slice t116_1 t116_len_1 t116_cap_1]) w_91)))))))))))))))))))))))))))))))
         ∧ (
          r_is_2 = false → (
          -- umlautref17.go:349
          (
           (not_1 == (1 : Int)) = true → (
           -- umlautref17.go:350
           Calls Try.prog 31 #[.pointer (some p), .int .i64 (10 : Int)] w_83 fun (e : Ending) (w_92 : World) => (
           e = .returned (.tuple #[]) ∧ (
           (b4 < w_83.heap.size → w_92.heap[b4]? = w_83.heap[b4]?) ∧ (
           (b_a < w_83.heap.size → w_92.heap[b_a]? = w_83.heap[b_a]?) ∧ (
           -- umlautref17.go:352
           ∀ w_93 : World,
           Vc.Fr (fun k => k = b4 ∨ k = b_a) w_92 w_93 → (
           b4 < w_93.heap.size → (
           b_a < w_93.heap.size → (
           R (.agg #[.int .i64 a_Kind, .int .i64 a_Op, .string a_S, .string a_T, .int .i64 a_N, .slice a_L a_L_len a_L_cap]) w_93)))))))))
          ∧ (
           (not_1 == (1 : Int)) = false → (
           -- umlautref17.go:352
           ∀ w_94 : World,
           Vc.Fr (fun k => k = b4 ∨ k = b_a) w_83 w_94 → (
           b4 < w_94.heap.size → (
           b_a < w_94.heap.size → (
           R (.agg #[.int .i64 a_Kind, .int .i64 a_Op, .string a_S, .string a_T, .int .i64 a_N, .slice a_L a_L_len a_L_cap]) w_94)))))))))))))))))))))))))))))))))))))))))))))))))
def Sh.ref17_Parser_compare_h : Vc.H := (.seq (.reg (.o 0 1 (.o 1 1 (.done 0)))) (.seq (.seq (.reg (.p 0 0 (.p 1 0 (.p 2 0 (.o 3 0 (.p 4 0 (.done 0))))))) (.cond false (.seq (.reg (.p 0 0 (.o 1 0 (.done 0)))) (.nil 0)) (.nil 0))) (.seq (.reg (.o 0 0 (.p 1 0 (.done 0)))) (.seq (.seq (.reg (.p 0 0 (.done 0))) (.block (.loop [((0, 6), .int .i64), ((5, 0), .int .i64), ((5, 1), .int .i64), ((5, 2), .str), ((5, 3), .str), ((5, 4), .int .i64), ((5, 5), .slice)] [(0, 19), (0, 20), (0, 21), (0, 22), (0, 25), (0, 26), (0, 27), (0, 28), (0, 29), (0, 30), (0, 31), (0, 32), (0, 33), (0, 34), (0, 35), (0, 36), (0, 37), (0, 38), (0, 39), (0, 40), (0, 41), (0, 42), (0, 43), (0, 44), (0, 23), (0, 24)] (.seq (.seq (.reg (.p 0 0 (.p 1 0 (.p 2 0 (.p 3 0 (.done 0)))))) (.cond false (.nil 0) (.nil 0))) (.seq (.block (.seq (.reg (.p 0 0 (.p 1 0 (.p 2 0 (.p 3 0 (.o 4 0 (.o 5 0 (.done 0)))))))) (.cond false (.seq (.reg (.p 0 0 (.p 1 0 (.p 2 0 (.o 3 0 (.p 4 0 (.p 5 0 (.p 6 0 (.o 7 0 (.done 0)))))))))) (.seq (.draw true [4] (.p 0 0 (.p 1 0 (.p 2 0 (.p 3 0 (.o 4 0 (.o 5 0 (.p 6 0 (.o 7 0 (.done 0)))))))))) (.nil 0))) (.nil 0)))) (.reg (.p 0 0 (.p 1 0 (.p 2 0 (.done 0)))))))))) (.seq (.seq (.reg (.p 0 0 (.o 1 0 (.done 0)))) (.cond false (.seq (.reg (.p 0 0 (.o 1 0 (.p 2 0 (.o 3 1 (.o 4 0 (.done 0))))))) (.seq (.seq (.reg (.p 0 0 (.o 1 0 (.done 0)))) (.cond false (.reg (.p 0 0 (.o 1 0 (.done 0)))) (.nil 0))) (.seq (.reg (.p 0 0 (.o 1 0 (.done 0)))) (.seq (.reg (.p 0 0 (.o 1 0 (.done 0)))) (.nil 0))))) (.nil 0))) (.seq (.reg (.p 0 0 (.done 0))) (.seq (.seq (.reg (.p 0 0 (.o 1 0 (.done 0)))) (.cut [((0, 8), .int .i64)] [(0, 58), (0, 59), (0, 60), (0, 61), (0, 62), (0, 63), (0, 64)] 0 (.cond false (.seq (.reg (.p 0 0 (.p 1 0 (.p 2 0 (.o 3 0 (.p 4 0 (.p 5 0 (.p 6 0 (.o 7 0 (.done 0)))))))))) (.reg (.p 0 0 (.done 0)))) (.nil 0)))) (.seq (.block (.seq (.reg (.p 0 0 (.o 1 0 (.p 2 0 (.done 0))))) (.cond false (.seq (.draw true [] (.p 0 0 (.p 1 0 (.p 2 0 (.br 3 0 (.br 4 0 (.p 5 0 (.o 6 1 (.o 7 0 (.done 0)))) (.o 6 1 (.o 4 0 (.p 5 0 (.o 7 0 (.done 0)))))) (.o 6 1 (.o 3 0 (.o 4 0 (.p 5 0 (.o 7 0 (.done 0))))))))))) (.seq (.seq (.reg (.p 0 0 (.o 1 0 (.done 0)))) (.cond false (.draw true [9] (.p 0 0 (.p 2 0 (.br 1 8 (.o 3 0 (.o 4 0 (.o 5 9 (.p 6 0 (.o 7 0 (.done 0)))))) (.o 3 0 (.br 1 8 (.o 4 0 (.o 5 9 (.p 6 0 (.o 7 0 (.done 0))))) (.o 4 0 (.o 1 8 (.o 5 9 (.p 6 0 (.o 7 0 (.done 0)))))))))))) (.nil 0))) (.seq (.reg (.p 0 0 (.o 1 0 (.done 0)))) (.nil 0)))) (.seq (.reg (.p 0 0 (.o 1 0 (.p 2 0 (.done 0))))) (.cond false (.seq (.reg (.p 0 0 (.o 1 0 (.o 2 1 (.o 3 0 (.done 0)))))) (.seq (.reg (.p 0 0 (.o 1 0 (.done 0)))) (.seq (.draw true [4] (.p 0 0 (.p 1 0 (.p 2 0 (.p 3 0 (.o 4 0 (.o 5 0 (.p 6 0 (.o 7 0 (.done 0)))))))))) (.nil 0)))) (.seq (.reg (.p 0 0 (.o 1 0 (.p 2 0 (.done 0))))) (.cond false (.seq (.reg (.p 0 0 (.p 1 0 (.p 2 0 (.o 3 0 (.p 4 0 (.p 5 0 (.p 6 0 (.o 7 0 (.done 0)))))))))) (.seq (.reg (.p 0 0 (.p 1 0 (.o 2 0 (.p 3 0 (.o 4 1 (.o 5 0 (.done 0)))))))) (.seq (.draw true [11] (.p 0 0 (.p 2 0 (.br 1 8 (.o 3 0 (.o 4 9 (.p 5 0 (.o 6 0 (.done 0))))) (.o 3 0 (.o 1 8 (.o 4 9 (.p 5 0 (.o 6 0 (.done 0)))))))))) (.seq (.reg (.p 0 0 (.o 1 0 (.done 0)))) (.nil 0))))) (.seq (.reg (.p 0 0 (.p 1 0 (.p 2 0 (.done 0))))) (.cond false (.reg (.p 0 0 (.o 1 0 (.done 0)))) (.nil 0)))))))))) (.seq (.reg (.p 0 0 (.o 1 0 (.done 0)))) (.nil 0))))))))))
theorem Sh.ref17_Parser_compare_eq (p : Addr) (a_Kind : Int) (a_Op : Int) (a_S : ByteArray) (a_T : ByteArray) (a_N : Int) (a_L : Option Addr) (a_L_len a_L_cap : Nat) (w : World) (R : Value → World → Prop) : Sh.ref17_Parser_compare p a_Kind a_Op a_S a_T a_N a_L a_L_len a_L_cap w R = Vc.vcFn Try.prog tab okF Try.f38 Sh.ref17_Parser_compare_h [.pointer (some p), .agg #[.int .i64 a_Kind, .int .i64 a_Op, .string a_S, .string a_T, .int .i64 a_N, .slice a_L a_L_len a_L_cap]] w R := by kernel_rfl
theorem Sh.ref17_Parser_compare_calls (p : Addr) (a_Kind : Int) (a_Op : Int) (a_S : ByteArray) (a_T : ByteArray) (a_N : Int) (a_L : Option Addr) (a_L_len a_L_cap : Nat) {w : World} {R : Value → World → Prop} (h : Sh.ref17_Parser_compare p a_Kind a_Op a_S a_T a_N a_L a_L_len a_L_cap w R) : Calls Try.prog 38 #[.pointer (some p), .agg #[.int .i64 a_Kind, .int .i64 a_Op, .string a_S, .string a_T, .int .i64 a_N, .slice a_L a_L_len a_L_cap]] w fun e w' => ∃ v, e = .returned v ∧ R v w' :=
  Vc.fn_calls mixed tabOk okF_ok Try.func38 (by kernel_rfl) (by kernel_rfl) (by rw [← Sh.ref17_Parser_compare_eq p a_Kind a_Op a_S a_T a_N a_L a_L_len a_L_cap]; exact h)

def Sh.ref17_Parser_first (p : Addr) (w : World) (R : Value → World → Prop) : Prop :=
  -- umlautref17.go:378
  ∀ b2 : Nat,
  w.heap.size ≤ b2 → (
  -- umlautref17.go:379
  ∀ w_1 : World,
  Vc.Fr (fun k => k = b2) w w_1 → (
  b2 < w_1.heap.size → (
  ∃ t9 : Int,
  w_1.cell? (p.add 2) = some (.int .i64 t9) ∧ (
  (
   (t9 != (0 : Int)) = true → (
   -- umlautref17.go:380
   ∀ w_2 : World,
   Vc.Fr (fun k => k = b2) w_1 w_2 → (
   b2 < w_2.heap.size → (
   R (.agg #[.int .i64 (0 : Int), .int .i64 (0 : Int), .string (⟨#[]⟩ : ByteArray), .string (⟨#[]⟩ : ByteArray), .int .i64 (0 : Int), .slice none 0 0]) w_2))))
  ∧ (
   (t9 != (0 : Int)) = false → (
   -- umlautref17.go:382
   Calls Try.prog 52 #[.pointer (some p)] w_1 fun (e : Ending) (w_3 : World) => (
   ∃ r_kind : Int,
   e = .returned (.int .i64 r_kind) ∧ (
   (b2 < w_1.heap.size → w_3.heap[b2]? = w_1.heap[b2]?) ∧ (
   (
    (r_kind == (3 : Int)) = true → (
    -- umlautref17.go:383
    ∃ t18 : Int,
    w_3.cell? (p.add 1) = some (.int .i64 t18) ∧ (
    (p.add 1).block ≠ b2 ∧ (
    (w_3.cell? (p.add 1)).isSome = true ∧ (
    w_3.frozen? (p.add 1) = false ∧ (
    -- umlautref17.go:384 (draws)
    ∀ w_4 : World,
    Vc.Fr (fun k => k = b2) (w_3.setCell (p.add 1) (.int .i64 (IntKind.i64.wrap (t18 + (1 : Int))))) w_4 → (
    b2 < w_4.heap.size → (
    ∃ (t25 : Option Addr) (t25_len t25_cap : Nat),
    w_4.cell? p = some (.slice t25 t25_len t25_cap) ∧ (
    p.block ≠ b2 ∧ (
    ∃ t29 : Int,
    w_4.cell? (p.add 1) = some (.int .i64 t29) ∧ (
    (p.add 1).block ≠ b2 ∧ (
    ∃ p_1 : Addr,
    t25 = some p_1 ∧ (
    (0 ≤ (IntKind.i64.wrap (t29 - (1 : Int))) ∧ (IntKind.i64.wrap (t29 - (1 : Int))) < ((t25_len : Nat) : Int)) ∧ (
    ∃ t33 : Int,
    w_4.cell? ((p_1.add ((IntKind.i64.wrap (t29 - (1 : Int))).toNat * 4)).add 2) = some (.int .i64 t33) ∧ (
    ((p_1.add ((IntKind.i64.wrap (t29 - (1 : Int))).toNat * 4)).add 2).block ≠ b2 ∧ (
    ∀ w_5 : World,
    Vc.Fr (fun k => k = b2) w_4 w_5 → (
    b2 < w_5.heap.size → (
    R (.agg #[.int .i64 (2 : Int), .int .i64 (0 : Int), .string (⟨#[]⟩ : ByteArray), .string (⟨#[]⟩ : ByteArray), .int .i64 t33, .slice none 0 0]) w_5))))))))))))))))))
   ∧ (
    (r_kind == (3 : Int)) = false → (
    -- umlautref17.go:386
    Calls Try.prog 52 #[.pointer (some p)] w_3 fun (e : Ending) (w_6 : World) => (
    ∃ r_kind_1 : Int,
    e = .returned (.int .i64 r_kind_1) ∧ (
    (b2 < w_3.heap.size → w_6.heap[b2]? = w_3.heap[b2]?) ∧ (
    (
     (r_kind_1 == (4 : Int)) = true → (
     -- umlautref17.go:387
     ∃ t41 : Int,
     w_6.cell? (p.add 1) = some (.int .i64 t41) ∧ (
     (p.add 1).block ≠ b2 ∧ (
     (w_6.cell? (p.add 1)).isSome = true ∧ (
     w_6.frozen? (p.add 1) = false ∧ (
     -- umlautref17.go:388 (draws)
     ∀ w_7 : World,
     Vc.Fr (fun k => k = b2) (w_6.setCell (p.add 1) (.int .i64 (IntKind.i64.wrap (t41 + (1 : Int))))) w_7 → (
     b2 < w_7.heap.size → (
     ∃ (t48 : Option Addr) (t48_len t48_cap : Nat),
     w_7.cell? p = some (.slice t48 t48_len t48_cap) ∧ (
     p.block ≠ b2 ∧ (
     ∃ t52 : Int,
     w_7.cell? (p.add 1) = some (.int .i64 t52) ∧ (
     (p.add 1).block ≠ b2 ∧ (
     ∃ p_2 : Addr,
     t48 = some p_2 ∧ (
     (0 ≤ (IntKind.i64.wrap (t52 - (1 : Int))) ∧ (IntKind.i64.wrap (t52 - (1 : Int))) < ((t48_len : Nat) : Int)) ∧ (
     ∃ t56 : ByteArray,
     w_7.cell? ((p_2.add ((IntKind.i64.wrap (t52 - (1 : Int))).toNat * 4)).add 1) = some (.string t56) ∧ (
     ((p_2.add ((IntKind.i64.wrap (t52 - (1 : Int))).toNat * 4)).add 1).block ≠ b2 ∧ (
     ∀ w_8 : World,
     Vc.Fr (fun k => k = b2) w_7 w_8 → (
     b2 < w_8.heap.size → (
     R (.agg #[.int .i64 (3 : Int), .int .i64 (0 : Int), .string t56, .string (⟨#[]⟩ : ByteArray), .int .i64 (0 : Int), .slice none 0 0]) w_8))))))))))))))))))
    ∧ (
     (r_kind_1 == (4 : Int)) = false → (
     -- umlautref17.go:390
     Calls Try.prog 52 #[.pointer (some p)] w_6 fun (e : Ending) (w_9 : World) => (
     ∃ r_kind_2 : Int,
     e = .returned (.int .i64 r_kind_2) ∧ (
     (b2 < w_6.heap.size → w_9.heap[b2]? = w_6.heap[b2]?) ∧ (
     (
      (r_kind_2 == (1 : Int)) = true → (
      -- umlautref17.go:391
      Calls Try.prog 55 #[.pointer (some p)] w_9 fun (e : Ending) (w_10 : World) => (
      ∃ r_named_Kind : Int,
      ∃ r_named_Op : Int,
      ∃ r_named_S : ByteArray,
      ∃ r_named_T : ByteArray,
      ∃ r_named_N : Int,
      ∃ (r_named_L : Option Addr) (r_named_L_len r_named_L_cap : Nat),
      e = .returned (.agg #[.int .i64 r_named_Kind, .int .i64 r_named_Op, .string r_named_S, .string r_named_T, .int .i64 r_named_N, .slice r_named_L r_named_L_len r_named_L_cap]) ∧ (
      (b2 < w_9.heap.size → w_10.heap[b2]? = w_9.heap[b2]?) ∧ (
      ∀ w_11 : World,
      Vc.Fr (fun k => k = b2) w_10 w_11 → (
      b2 < w_11.heap.size → (
      R (.agg #[.int .i64 r_named_Kind, .int .i64 r_named_Op, .string r_named_S, .string r_named_T, .int .i64 r_named_N, .slice r_named_L r_named_L_len r_named_L_cap]) w_11)))))))
     ∧ (
      (r_kind_2 == (1 : Int)) = false → (
      -- umlautref17.go:394
      Calls Try.prog 40 #[.pointer (some p), .string (⟨#[78, 85, 76, 76]⟩ : ByteArray)] w_9 fun (e : Ending) (w_12 : World) => (
      ∃ r_take : Bool,
      e = .returned (.bool r_take) ∧ (
      (b2 < w_9.heap.size → w_12.heap[b2]? = w_9.heap[b2]?) ∧ (
      (
       r_take = true → (
       -- umlautref17.go:395
       ∀ w_13 : World,
       Vc.Fr (fun k => k = b2) w_12 w_13 → (
       b2 < w_13.heap.size → (
       R (.agg #[.int .i64 (0 : Int), .int .i64 (0 : Int), .string (⟨#[]⟩ : ByteArray), .string (⟨#[]⟩ : ByteArray), .int .i64 (0 : Int), .slice none 0 0]) w_13))))
      ∧ (
       r_take = false → (
       -- umlautref17.go:396
       Calls Try.prog 40 #[.pointer (some p), .string (⟨#[84, 82, 85, 69]⟩ : ByteArray)] w_12 fun (e : Ending) (w_14 : World) => (
       ∃ r_take_1 : Bool,
       e = .returned (.bool r_take_1) ∧ (
       (b2 < w_12.heap.size → w_14.heap[b2]? = w_12.heap[b2]?) ∧ (
       (
        r_take_1 = true → (
        -- umlautref17.go:397
        ∀ w_15 : World,
        Vc.Fr (fun k => k = b2) w_14 w_15 → (
        b2 < w_15.heap.size → (
        R (.agg #[.int .i64 (1 : Int), .int .i64 (0 : Int), .string (⟨#[]⟩ : ByteArray), .string (⟨#[]⟩ : ByteArray), .int .i64 (1 : Int), .slice none 0 0]) w_15))))
       ∧ (
        r_take_1 = false → (
        -- umlautref17.go:398
        Calls Try.prog 40 #[.pointer (some p), .string (⟨#[70, 65, 76, 83, 69]⟩ : ByteArray)] w_14 fun (e : Ending) (w_16 : World) => (
        ∃ r_take_2 : Bool,
        e = .returned (.bool r_take_2) ∧ (
        (b2 < w_14.heap.size → w_16.heap[b2]? = w_14.heap[b2]?) ∧ (
        (
         r_take_2 = true → (
         -- umlautref17.go:399
         ∀ w_17 : World,
         Vc.Fr (fun k => k = b2) w_16 w_17 → (
         b2 < w_17.heap.size → (
         R (.agg #[.int .i64 (1 : Int), .int .i64 (0 : Int), .string (⟨#[]⟩ : ByteArray), .string (⟨#[]⟩ : ByteArray), .int .i64 (0 : Int), .slice none 0 0]) w_17))))
        ∧ (
         r_take_2 = false → (
         -- umlautref17.go:400
         Calls Try.prog 36 #[.pointer (some p), .string (⟨#[40]⟩ : ByteArray)] w_16 fun (e : Ending) (w_18 : World) => (
         ∃ r_is : Bool,
         e = .returned (.bool r_is) ∧ (
         (b2 < w_16.heap.size → w_18.heap[b2]? = w_16.heap[b2]?) ∧ (
         (
          r_is = true → (
          -- umlautref17.go:401
          Calls Try.prog 37 #[.pointer (some p)] w_18 fun (e : Ending) (w_19 : World) => (
          ∃ r_in : Bool,
          e = .returned (.bool r_in) ∧ (
          (b2 < w_18.heap.size → w_19.heap[b2]? = w_18.heap[b2]?) ∧ (
          (
           (!r_in) = true → (
           -- umlautref17.go:402
           ∀ w_20 : World,
           Vc.Fr (fun k => k = b2) w_19 w_20 → (
           b2 < w_20.heap.size → (
           R (.agg #[.int .i64 (0 : Int), .int .i64 (0 : Int), .string (⟨#[]⟩ : ByteArray), .string (⟨#[]⟩ : ByteArray), .int .i64 (0 : Int), .slice none 0 0]) w_20))))
          ∧ (
           (!r_in) = false → (
           -- umlautref17.go:404
           ∃ t85 : Int,
           w_19.cell? (p.add 1) = some (.int .i64 t85) ∧ (
           (p.add 1).block ≠ b2 ∧ (
           (w_19.cell? (p.add 1)).isSome = true ∧ (
           w_19.frozen? (p.add 1) = false ∧ (
           -- umlautref17.go:405
           Calls Try.prog 30 #[.pointer (some p), .int .i64 (1 : Int)] (w_19.setCell (p.add 1) (.int .i64 (IntKind.i64.wrap (t85 + (1 : Int))))) fun (e : Ending) (w_21 : World) => (
           ∃ r_Expr_Kind : Int,
           ∃ r_Expr_Op : Int,
           ∃ r_Expr_S : ByteArray,
           ∃ r_Expr_T : ByteArray,
           ∃ r_Expr_N : Int,
           ∃ (r_Expr_L : Option Addr) (r_Expr_L_len r_Expr_L_cap : Nat),
           e = .returned (.agg #[.int .i64 r_Expr_Kind, .int .i64 r_Expr_Op, .string r_Expr_S, .string r_Expr_T, .int .i64 r_Expr_N, .slice r_Expr_L r_Expr_L_len r_Expr_L_cap]) ∧ (
           (b2 < (w_19.setCell (p.add 1) (.int .i64 (IntKind.i64.wrap (t85 + (1 : Int))))).heap.size → w_21.heap[b2]? = (w_19.setCell (p.add 1) (.int .i64 (IntKind.i64.wrap (t85 + (1 : Int))))).heap[b2]?) ∧ (
           ∀ b_n : Nat,
           w_21.heap.size ≤ b_n → (
           b_n ≠ b2 → (
           -- umlautref17.go:406
           ∀ w_22 : World,
           Vc.Fr (fun k => k = b_n ∨ k = b2) w_21 w_22 → (
           b_n < w_22.heap.size → (
           b2 < w_22.heap.size → (
           Calls Try.prog 53 #[.pointer (some p), .string (⟨#[41]⟩ : ByteArray)] w_22 fun (e : Ending) (w_23 : World) => (
           e = .returned (.tuple #[]) ∧ (
           (b_n < w_22.heap.size → w_23.heap[b_n]? = w_22.heap[b_n]?) ∧ (
           (b2 < w_22.heap.size → w_23.heap[b2]? = w_22.heap[b2]?) ∧ (
           -- umlautref17.go:407
           ∃ t96 : Int,
           w_23.cell? (p.add 4) = some (.int .i64 t96) ∧ (
           (p.add 4).block ≠ b_n ∧ (
           (p.add 4).block ≠ b2 ∧ (
           (w_23.cell? (p.add 4)).isSome = true ∧ (
           w_23.frozen? (p.add 4) = false ∧ (
           -- umlautref17.go:408
           ∀ w_24 : World,
           Vc.Fr (fun k => k = b_n ∨ k = b2) (w_23.setCell (p.add 4) (.int .i64 (IntKind.i64.wrap (t96 - (1 : Int))))) w_24 → (
           b_n < w_24.heap.size → (
           b2 < w_24.heap.size → (
           R (.agg #[.int .i64 r_Expr_Kind, .int .i64 r_Expr_Op, .string r_Expr_S, .string r_Expr_T, .int .i64 r_Expr_N, .slice r_Expr_L r_Expr_L_len r_Expr_L_cap]) w_24)))))))))))))))))))))))))))))))
         ∧ (
          r_is = false → (
          -- umlautref17.go:409
          Calls Try.prog 36 #[.pointer (some p), .string (⟨#[67, 65, 83, 84]⟩ : ByteArray)] w_18 fun (e : Ending) (w_25 : World) => (
          ∃ r_is_1 : Bool,
          e = .returned (.bool r_is_1) ∧ (
          (b2 < w_18.heap.size → w_25.heap[b2]? = w_18.heap[b2]?) ∧ (
          (
           r_is_1 = true → (
           -- umlautref17.go:410
           Calls Try.prog 37 #[.pointer (some p)] w_25 fun (e : Ending) (w_26 : World) => (
           ∃ r_in_1 : Bool,
           e = .returned (.bool r_in_1) ∧ (
           (b2 < w_25.heap.size → w_26.heap[b2]? = w_25.heap[b2]?) ∧ (
           (
            (!r_in_1) = true → (
            -- umlautref17.go:411
            ∀ w_27 : World,
            Vc.Fr (fun k => k = b2) w_26 w_27 → (
            b2 < w_27.heap.size → (
            R (.agg #[.int .i64 (0 : Int), .int .i64 (0 : Int), .string (⟨#[]⟩ : ByteArray), .string (⟨#[]⟩ : ByteArray), .int .i64 (0 : Int), .slice none 0 0]) w_27))))
           ∧ (
            (!r_in_1) = false → (
            -- umlautref17.go:413
            ∃ t111 : Int,
            w_26.cell? (p.add 1) = some (.int .i64 t111) ∧ (
            (p.add 1).block ≠ b2 ∧ (
            (w_26.cell? (p.add 1)).isSome = true ∧ (
            w_26.frozen? (p.add 1) = false ∧ (
            -- umlautref17.go:414
            Calls Try.prog 53 #[.pointer (some p), .string (⟨#[40]⟩ : ByteArray)] (w_26.setCell (p.add 1) (.int .i64 (IntKind.i64.wrap (t111 + (1 : Int))))) fun (e : Ending) (w_28 : World) => (
            e = .returned (.tuple #[]) ∧ (
            (b2 < (w_26.setCell (p.add 1) (.int .i64 (IntKind.i64.wrap (t111 + (1 : Int))))).heap.size → w_28.heap[b2]? = (w_26.setCell (p.add 1) (.int .i64 (IntKind.i64.wrap (t111 + (1 : Int))))).heap[b2]?) ∧ (
            -- umlautref17.go:415
            Calls Try.prog 30 #[.pointer (some p), .int .i64 (1 : Int)] w_28 fun (e : Ending) (w_29 : World) => (
            ∃ r_Expr_Kind_1 : Int,
            ∃ r_Expr_Op_1 : Int,
            ∃ r_Expr_S_1 : ByteArray,
            ∃ r_Expr_T_1 : ByteArray,
            ∃ r_Expr_N_1 : Int,
            ∃ (r_Expr_L_1 : Option Addr) (r_Expr_L_len_1 r_Expr_L_cap_1 : Nat),
            e = .returned (.agg #[.int .i64 r_Expr_Kind_1, .int .i64 r_Expr_Op_1, .string r_Expr_S_1, .string r_Expr_T_1, .int .i64 r_Expr_N_1, .slice r_Expr_L_1 r_Expr_L_len_1 r_Expr_L_cap_1]) ∧ (
            (b2 < w_28.heap.size → w_29.heap[b2]? = w_28.heap[b2]?) ∧ (
            ∀ b_n_1 : Nat,
            w_29.heap.size ≤ b_n_1 → (
            b_n_1 ≠ b2 → (
            -- umlautref17.go:416
            ∀ w_30 : World,
            Vc.Fr (fun k => k = b_n_1 ∨ k = b2) w_29 w_30 → (
            b_n_1 < w_30.heap.size → (
            b2 < w_30.heap.size → (
            Calls Try.prog 53 #[.pointer (some p), .string (⟨#[65, 83]⟩ : ByteArray)] w_30 fun (e : Ending) (w_31 : World) => (
            e = .returned (.tuple #[]) ∧ (
            (b_n_1 < w_30.heap.size → w_31.heap[b_n_1]? = w_30.heap[b_n_1]?) ∧ (
            (b2 < w_30.heap.size → w_31.heap[b2]? = w_30.heap[b2]?) ∧ (
            -- umlautref17.go:417
            Calls Try.prog 56 #[.pointer (some p)] w_31 fun (e : Ending) (w_32 : World) => (
            ∃ r_typed : Int,
            e = .returned (.int .i64 r_typed) ∧ (
            (b_n_1 < w_31.heap.size → w_32.heap[b_n_1]? = w_31.heap[b_n_1]?) ∧ (
            (b2 < w_31.heap.size → w_32.heap[b2]? = w_31.heap[b2]?) ∧ (
            -- umlautref17.go:418
            Calls Try.prog 53 #[.pointer (some p), .string (⟨#[41]⟩ : ByteArray)] w_32 fun (e : Ending) (w_33 : World) => (
            e = .returned (.tuple #[]) ∧ (
            (b_n_1 < w_32.heap.size → w_33.heap[b_n_1]? = w_32.heap[b_n_1]?) ∧ (
            (b2 < w_32.heap.size → w_33.heap[b2]? = w_32.heap[b2]?) ∧ (
            -- umlautref17.go:419
            ∃ t128 : Int,
            w_33.cell? (p.add 4) = some (.int .i64 t128) ∧ (
            (p.add 4).block ≠ b_n_1 ∧ (
            (p.add 4).block ≠ b2 ∧ (
            (w_33.cell? (p.add 4)).isSome = true ∧ (
            w_33.frozen? (p.add 4) = false ∧ (
            -- umlautref17.go:420
            ∀ w_34 : World,
            w_34 = (w_33.setCell (p.add 4) (.int .i64 (IntKind.i64.wrap (t128 - (1 : Int))))).alloc (.cells #[.int .i64 r_Expr_Kind_1, .int .i64 r_Expr_Op_1, .string r_Expr_S_1, .string r_Expr_T_1, .int .i64 r_Expr_N_1, .slice r_Expr_L_1 r_Expr_L_len_1 r_Expr_L_cap_1] 24) → (
            ∀ w_35 : World,
            Vc.Fr (fun k => k = b_n_1 ∨ k = b2) w_34 w_35 → (
            b_n_1 < w_35.heap.size → (
            b2 < w_35.heap.size → (
            R (.agg #[.int .i64 (12 : Int), .int .i64 (0 : Int), .string (⟨#[]⟩ : ByteArray), .string (⟨#[]⟩ : ByteArray), .int .i64 r_typed, .slice (some (⟨(w_33.setCell (p.add 4) (.int .i64 (IntKind.i64.wrap (t128 - (1 : Int))))).heap.size, 0, none⟩ : Addr)) 1 1]) w_35)))))))))))))))))))))))))))))))))))))))))))
          ∧ (
           r_is_1 = false → (
           -- umlautref17.go:422
           Calls Try.prog 31 #[.pointer (some p), .int .i64 (10 : Int)] w_25 fun (e : Ending) (w_36 : World) => (
           e = .returned (.tuple #[]) ∧ (
           (b2 < w_25.heap.size → w_36.heap[b2]? = w_25.heap[b2]?) ∧ (
           -- umlautref17.go:423
           ∀ w_37 : World,
           Vc.Fr (fun k => k = b2) w_36 w_37 → (
           b2 < w_37.heap.size → (
           R (.agg #[.int .i64 (0 : Int), .int .i64 (0 : Int), .string (⟨#[]⟩ : ByteArray), .string (⟨#[]⟩ : ByteArray), .int .i64 (0 : Int), .slice none 0 0]) w_37)))))))))))))))))))))))))))))))))))))))))))))))))))
def Sh.ref17_Parser_first_h : Vc.H := (.seq (.reg (.o 0 1 (.done 0))) (.seq (.seq (.reg (.p 0 0 (.p 1 0 (.p 2 0 (.o 3 0 (.p 4 0 (.done 0))))))) (.cond false (.seq (.reg (.p 0 0 (.o 1 0 (.done 0)))) (.nil 0)) (.nil 0))) (.seq (.seq (.reg (.p 0 0 (.o 1 0 (.p 2 0 (.done 0))))) (.cond false (.seq (.reg (.p 0 0 (.p 1 0 (.p 2 0 (.o 3 0 (.p 4 0 (.p 5 0 (.p 6 0 (.o 7 0 (.done 0)))))))))) (.seq (.draw false [2] (.p 0 0 (.p 1 0 (.p 2 0 (.l 3 (.p 4 0 (.p 5 0 (.p 6 0 (.l 7 (.p 8 0 (.p 9 1 (.p 10 0 (.l 11 (.p 12 0 (.o 13 0 (.done 0)))))))))))))))) (.nil 0))) (.nil 0))) (.seq (.seq (.reg (.p 0 0 (.o 1 0 (.p 2 0 (.done 0))))) (.cond false (.seq (.reg (.p 0 0 (.p 1 0 (.p 2 0 (.o 3 0 (.p 4 0 (.p 5 0 (.p 6 0 (.o 7 0 (.done 0)))))))))) (.seq (.draw false [2] (.p 0 0 (.p 1 0 (.p 2 0 (.l 3 (.p 4 0 (.p 5 0 (.p 6 0 (.l 7 (.p 8 0 (.p 9 1 (.p 10 0 (.l 11 (.p 12 0 (.o 13 0 (.done 0)))))))))))))))) (.nil 0))) (.nil 0))) (.seq (.seq (.reg (.p 0 0 (.o 1 0 (.p 2 0 (.done 0))))) (.cond false (.seq (.reg (.p 0 0 (.o 1 0 (.o 2 0 (.done 0))))) (.nil 0)) (.nil 0))) (.seq (.block (.seq (.reg (.p 0 0 (.o 1 0 (.p 2 0 (.done 0))))) (.cond false (.seq (.reg (.p 0 0 (.o 1 0 (.done 0)))) (.nil 0)) (.seq (.reg (.p 0 0 (.o 1 0 (.p 2 0 (.done 0))))) (.cond false (.seq (.reg (.p 0 0 (.o 1 0 (.done 0)))) (.nil 0)) (.seq (.reg (.p 0 0 (.o 1 0 (.p 2 0 (.done 0))))) (.cond false (.seq (.reg (.p 0 0 (.o 1 0 (.done 0)))) (.nil 0)) (.seq (.reg (.p 0 0 (.o 1 0 (.p 2 0 (.done 0))))) (.cond false (.seq (.seq (.reg (.p 0 0 (.o 1 0 (.p 2 0 (.done 0))))) (.cond false (.seq (.reg (.p 0 0 (.o 1 0 (.done 0)))) (.nil 0)) (.nil 0))) (.seq (.reg (.p 0 0 (.p 1 0 (.p 2 0 (.o 3 0 (.p 4 0 (.p 5 0 (.p 6 0 (.o 7 0 (.done 0)))))))))) (.seq (.reg (.p 0 0 (.o 1 0 (.o 2 1 (.o 3 0 (.done 0)))))) (.seq (.reg (.p 0 0 (.o 1 0 (.done 0)))) (.seq (.reg (.p 0 0 (.p 1 0 (.p 2 0 (.o 3 0 (.p 4 0 (.p 5 0 (.p 6 0 (.o 7 0 (.done 0)))))))))) (.seq (.reg (.p 0 0 (.o 1 0 (.done 0)))) (.nil 0))))))) (.seq (.reg (.p 0 0 (.o 1 0 (.p 2 0 (.done 0))))) (.cond false (.seq (.seq (.reg (.p 0 0 (.o 1 0 (.p 2 0 (.done 0))))) (.cond false (.seq (.reg (.p 0 0 (.o 1 0 (.done 0)))) (.nil 0)) (.nil 0))) (.seq (.reg (.p 0 0 (.p 1 0 (.p 2 0 (.o 3 0 (.p 4 0 (.p 5 0 (.p 6 0 (.o 7 0 (.done 0)))))))))) (.seq (.reg (.p 0 0 (.o 1 0 (.done 0)))) (.seq (.reg (.p 0 0 (.o 1 0 (.o 2 1 (.o 3 0 (.done 0)))))) (.seq (.reg (.p 0 0 (.o 1 0 (.done 0)))) (.seq (.reg (.p 0 0 (.o 1 0 (.p 2 0 (.done 0))))) (.seq (.reg (.p 0 0 (.o 1 0 (.done 0)))) (.seq (.reg (.p 0 0 (.p 1 0 (.p 2 0 (.o 3 0 (.p 4 0 (.p 5 0 (.p 6 0 (.o 7 0 (.done 0)))))))))) (.seq (.reg (.p 0 0 (.p 1 0 (.o 2 0 (.p 3 0 (.o 4 0 (.done 0))))))) (.nil 0)))))))))) (.nil 0)))))))))))) (.seq (.reg (.p 0 0 (.o 1 0 (.done 0)))) (.seq (.reg (.p 0 0 (.o 1 0 (.done 0)))) (.nil 0)))))))))
theorem Sh.ref17_Parser_first_eq (p : Addr) (w : World) (R : Value → World → Prop) : Sh.ref17_Parser_first p w R = Vc.vcFn Try.prog tab okF Try.f39 Sh.ref17_Parser_first_h [.pointer (some p)] w R := by kernel_rfl
theorem Sh.ref17_Parser_first_calls (p : Addr) {w : World} {R : Value → World → Prop} (h : Sh.ref17_Parser_first p w R) : Calls Try.prog 39 #[.pointer (some p)] w fun e w' => ∃ v, e = .returned v ∧ R v w' :=
  Vc.fn_calls mixed tabOk okF_ok Try.func39 (by kernel_rfl) (by kernel_rfl) (by rw [← Sh.ref17_Parser_first_eq p]; exact h)

def Sh.ref17_Parser_take (p : Addr) (s : ByteArray) (w : World) (R : Value → World → Prop) : Prop :=
  -- umlautref17.go:205
  -- umlautref17.go:206
  ∃ t8 : Int,
  w.cell? (p.add 2) = some (.int .i64 t8) ∧ (
  (
   (t8 != (0 : Int)) = true → (
   -- umlautref17.go:207
   R (.bool false) w))
  ∧ (
   (t8 != (0 : Int)) = false → (
   (!(t8 != (0 : Int))) = true ∧ (
   (!(t8 != (0 : Int))) = true ∧ (
   Calls Try.prog 36 #[.pointer (some p), .string s] w fun (e : Ending) (w_1 : World) => (
   ∃ r_is : Bool,
   e = .returned (.bool r_is) ∧ (
   (
    (!r_is) = true → (
    -- umlautref17.go:207
    R (.bool false) w_1))
   ∧ (
    (!r_is) = false → (
    -- umlautref17.go:209
    ∃ t19 : Int,
    w_1.cell? (p.add 1) = some (.int .i64 t19) ∧ (
    (w_1.cell? (p.add 1)).isSome = true ∧ (
    w_1.frozen? (p.add 1) = false ∧ (
    -- umlautref17.go:210
    R (.bool true) (w_1.setCell (p.add 1) (.int .i64 (IntKind.i64.wrap (t19 + (1 : Int)))))))))))))))))
def Sh.ref17_Parser_take_h : Vc.H := (.seq (.reg (.p 0 0 (.done 0))) (.seq (.seq (.reg (.p 0 0 (.p 1 0 (.p 2 0 (.o 3 0 (.p 4 0 (.p 5 0 (.p 6 0 (.p 7 0 (.s 10 (.sk 8 (.sk 9 (.p 10 1 (.done 0)))) (.o 8 0 (.p 9 8 (.p 10 1 (.done 1)))))))))))))) (.alt (.cond true (.seq (.reg (.p 0 0 (.done 0))) (.nil 0)) (.nil 0)) (.cond false (.seq (.reg (.p 0 0 (.done 0))) (.nil 0)) (.nil 0)))) (.seq (.reg (.p 0 0 (.p 1 0 (.p 2 0 (.o 3 0 (.p 4 0 (.p 5 0 (.p 6 0 (.o 7 0 (.done 0)))))))))) (.seq (.reg (.p 0 0 (.done 0))) (.nil 0)))))
theorem Sh.ref17_Parser_take_eq (p : Addr) (s : ByteArray) (w : World) (R : Value → World → Prop) : Sh.ref17_Parser_take p s w R = Vc.vcFn Try.prog tab okF Try.f40 Sh.ref17_Parser_take_h [.pointer (some p), .string s] w R := by kernel_rfl
theorem Sh.ref17_Parser_take_calls (p : Addr) (s : ByteArray) {w : World} {R : Value → World → Prop} (h : Sh.ref17_Parser_take p s w R) : Calls Try.prog 40 #[.pointer (some p), .string s] w fun e w' => ∃ v, e = .returned v ∧ R v w' :=
  Vc.fn_calls mixed tabOk okF_ok Try.func40 (by kernel_rfl) (by kernel_rfl) (by rw [← Sh.ref17_Parser_take_eq p s]; exact h)

def Sh.ref17_Parser_name (p : Addr) (w : World) (R : Value → World → Prop) : Prop :=
  -- umlautref17.go:221
  -- umlautref17.go:222
  ∃ t6 : Int,
  w.cell? (p.add 2) = some (.int .i64 t6) ∧ (
  (
   (t6 != (0 : Int)) = true → (
   -- umlautref17.go:223
   Calls Try.prog 31 #[.pointer (some p), .int .i64 (10 : Int)] w fun (e : Ending) (w_1 : World) => (
   e = .returned (.tuple #[]) ∧ (
   -- umlautref17.go:224
   R (.string (⟨#[]⟩ : ByteArray)) w_1))))
  ∧ (
   (t6 != (0 : Int)) = false → (
   (!(t6 != (0 : Int))) = true ∧ (
   Calls Try.prog 52 #[.pointer (some p)] w fun (e : Ending) (w_2 : World) => (
   ∃ r_kind : Int,
   e = .returned (.int .i64 r_kind) ∧ (
   (
    (r_kind != (1 : Int)) = true → (
    -- umlautref17.go:223
    Calls Try.prog 31 #[.pointer (some p), .int .i64 (10 : Int)] w_2 fun (e : Ending) (w_3 : World) => (
    e = .returned (.tuple #[]) ∧ (
    -- umlautref17.go:224
    R (.string (⟨#[]⟩ : ByteArray)) w_3))))
   ∧ (
    (r_kind != (1 : Int)) = false → (
    -- umlautref17.go:226
    ∃ t18 : Int,
    w_2.cell? (p.add 1) = some (.int .i64 t18) ∧ (
    (w_2.cell? (p.add 1)).isSome = true ∧ (
    w_2.frozen? (p.add 1) = false ∧ (
    -- umlautref17.go:227 (draws)
    ∀ w_4 : World,
    Vc.Fr (fun k => False) (w_2.setCell (p.add 1) (.int .i64 (IntKind.i64.wrap (t18 + (1 : Int))))) w_4 → (
    ∃ (t25 : Option Addr) (t25_len t25_cap : Nat),
    w_4.cell? p = some (.slice t25 t25_len t25_cap) ∧ (
    ∃ t29 : Int,
    w_4.cell? (p.add 1) = some (.int .i64 t29) ∧ (
    ∃ p_1 : Addr,
    t25 = some p_1 ∧ (
    (0 ≤ (IntKind.i64.wrap (t29 - (1 : Int))) ∧ (IntKind.i64.wrap (t29 - (1 : Int))) < ((t25_len : Nat) : Int)) ∧ (
    ∃ t33 : ByteArray,
    w_4.cell? ((p_1.add ((IntKind.i64.wrap (t29 - (1 : Int))).toNat * 4)).add 1) = some (.string t33) ∧ (
    R (.string t33) w_4)))))))))))))))))
def Sh.ref17_Parser_name_h : Vc.H := (.seq (.reg (.p 0 0 (.done 0))) (.seq (.seq (.reg (.p 0 0 (.p 1 0 (.p 2 0 (.o 3 0 (.p 4 0 (.p 5 0 (.p 6 0 (.s 8 (.sk 7 (.sk 8 (.p 9 1 (.done 0)))) (.o 7 0 (.p 8 8 (.p 9 1 (.done 1))))))))))))) (.alt (.cond true (.seq (.reg (.p 0 0 (.o 1 0 (.done 0)))) (.seq (.reg (.p 0 0 (.done 0))) (.nil 0))) (.nil 0)) (.cond false (.seq (.reg (.p 0 0 (.o 1 0 (.done 0)))) (.seq (.reg (.p 0 0 (.done 0))) (.nil 0))) (.nil 0)))) (.seq (.reg (.p 0 0 (.p 1 0 (.p 2 0 (.o 3 0 (.p 4 0 (.p 5 0 (.p 6 0 (.o 7 0 (.done 0)))))))))) (.seq (.draw false [] (.p 0 0 (.p 1 0 (.p 2 0 (.l 3 (.p 4 0 (.p 5 0 (.p 6 0 (.l 7 (.p 8 0 (.p 9 1 (.p 10 0 (.l 11 (.p 12 0 (.done 0))))))))))))))) (.nil 0)))))
theorem Sh.ref17_Parser_name_eq (p : Addr) (w : World) (R : Value → World → Prop) : Sh.ref17_Parser_name p w R = Vc.vcFn Try.prog tab okF Try.f41 Sh.ref17_Parser_name_h [.pointer (some p)] w R := by kernel_rfl
theorem Sh.ref17_Parser_name_calls (p : Addr) {w : World} {R : Value → World → Prop} (h : Sh.ref17_Parser_name p w R) : Calls Try.prog 41 #[.pointer (some p)] w fun e w' => ∃ v, e = .returned v ∧ R v w' :=
  Vc.fn_calls mixed tabOk okF_ok Try.func41 (by kernel_rfl) (by kernel_rfl) (by rw [← Sh.ref17_Parser_name_eq p]; exact h)

def Sh.ref17_Parser_opOf (p : Addr) (level : Int) (w : World) (R : Value → World → Prop) : Prop :=
  -- umlautref17.go:244
  -- umlautref17.go:249
  ∀ w_1 : World,
  w_1 = w.alloc (.cells #[.string (⟨#[79, 82]⟩ : ByteArray), .int .i64 (19 : Int), .string (⟨#[88, 79, 82]⟩ : ByteArray), .int .i64 (22 : Int)] 98) → (
  ∀ w_2 : World,
  w_2 = w_1.alloc (.cells #[.string (⟨#[65, 78, 68]⟩ : ByteArray), .int .i64 (18 : Int)] 98) → (
  ∀ w_3 : World,
  w_3 = w_2.alloc (.cells #[.string (⟨#[124]⟩ : ByteArray), .int .i64 (15 : Int), .string (⟨#[94]⟩ : ByteArray), .int .i64 (16 : Int)] 98) → (
  ∀ w_4 : World,
  w_4 = w_3.alloc (.cells #[.string (⟨#[38]⟩ : ByteArray), .int .i64 (14 : Int)] 98) → (
  ∀ w_5 : World,
  w_5 = w_4.alloc (.cells #[.string (⟨#[60, 60]⟩ : ByteArray), .int .i64 (12 : Int), .string (⟨#[62, 62]⟩ : ByteArray), .int .i64 (13 : Int)] 98) → (
  ∀ w_6 : World,
  w_6 = w_5.alloc (.cells #[.string (⟨#[43]⟩ : ByteArray), .int .i64 (7 : Int), .string (⟨#[45]⟩ : ByteArray), .int .i64 (8 : Int), .string (⟨#[124, 124]⟩ : ByteArray), .int .i64 (17 : Int)] 98) → (
  ∀ w_7 : World,
  w_7 = w_6.alloc (.cells #[.string (⟨#[42]⟩ : ByteArray), .int .i64 (9 : Int), .string (⟨#[47]⟩ : ByteArray), .int .i64 (10 : Int), .string (⟨#[37]⟩ : ByteArray), .int .i64 (11 : Int)] 98) → (
  ∀ w_8 : World,
  w_8 = w_7.alloc (.cells #[.slice none 0 0, .slice (some (⟨w.heap.size, 0, none⟩ : Addr)) 2 2, .slice (some (⟨w_1.heap.size, 0, none⟩ : Addr)) 1 1, .slice none 0 0, .slice none 0 0, .slice (some (⟨w_2.heap.size, 0, none⟩ : Addr)) 2 2, .slice (some (⟨w_3.heap.size, 0, none⟩ : Addr)) 1 1, .slice (some (⟨w_4.heap.size, 0, none⟩ : Addr)) 2 2, .slice (some (⟨w_5.heap.size, 0, none⟩ : Addr)) 3 3, .slice (some (⟨w_6.heap.size, 0, none⟩ : Addr)) 3 3] 99) → (
  -- umlautref17.go:250
  -- LOOP 9: i
  ∃ (I : Int → World → Prop) (μ : Int → World → Nat),
  (
   I (0 : Int) w_8)
  ∧ (
   ∀ (i : Int),
   ∀ w_9 : World,
   I i w_9 → (
   -- umlautref17.go:250
   ((decide (level < ((10 : Nat) : Int))) = true → (decide (level < ((10 : Nat) : Int))) = true) ∧ (
   ((decide (level < ((10 : Nat) : Int))) = true → (decide (level < ((10 : Nat) : Int))) = true) ∧ (
   ((decide (level < ((10 : Nat) : Int))) = true → (0 ≤ level ∧ level < ((10 : Nat) : Int))) ∧ (
   (
    (decide (level < ((10 : Nat) : Int))) = true → (
    (decide (level < ((10 : Nat) : Int))) = true ∧ (
    ∃ (t38 : Option Addr) (t38_len t38_cap : Nat),
    w_9.cell? ((⟨w_7.heap.size, 0, none⟩ : Addr).add (level.toNat * 1)) = some (.slice t38 t38_len t38_cap) ∧ (
    (decide (level < ((10 : Nat) : Int))) = true ∧ (
    (
     (decide (i < ((t38_len : Nat) : Int))) = true → (
     -- umlautref17.go:251
     (0 ≤ level ∧ level < ((10 : Nat) : Int)) ∧ (
     ∃ (t48 : Option Addr) (t48_len t48_cap : Nat),
     w_9.cell? ((⟨w_7.heap.size, 0, none⟩ : Addr).add (level.toNat * 1)) = some (.slice t48 t48_len t48_cap) ∧ (
     ∃ p_1 : Addr,
     t48 = some p_1 ∧ (
     (0 ≤ i ∧ i < ((t48_len : Nat) : Int)) ∧ (
     ∃ t52 : ByteArray,
     w_9.cell? (p_1.add (i.toNat * 2)) = some (.string t52) ∧ (
     Calls Try.prog 36 #[.pointer (some p), .string t52] w_9 fun (e : Ending) (w_10 : World) => (
     ∃ r_is : Bool,
     e = .returned (.bool r_is) ∧ (
     (
      r_is = true → (
      -- umlautref17.go:252
      (0 ≤ level ∧ level < ((10 : Nat) : Int)) ∧ (
      ∃ (t57 : Option Addr) (t57_len t57_cap : Nat),
      w_10.cell? ((⟨w_7.heap.size, 0, none⟩ : Addr).add (level.toNat * 1)) = some (.slice t57 t57_len t57_cap) ∧ (
      ∃ p_2 : Addr,
      t57 = some p_2 ∧ (
      (0 ≤ i ∧ i < ((t57_len : Nat) : Int)) ∧ (
      ∃ t61 : Int,
      w_10.cell? ((p_2.add (i.toNat * 2)).add 1) = some (.int .i64 t61) ∧ (
      R (.int .i64 t61) w_10)))))))
     ∧ (
      r_is = false → (
      -- umlautref17.go:250
      I (IntKind.i64.wrap (i + (1 : Int))) w_10 ∧ μ (IntKind.i64.wrap (i + (1 : Int))) w_10 < μ i w_9)))))))))))
    ∧ (
     (decide (i < ((t38_len : Nat) : Int))) = false → (
     -- umlautref17.go:255
     R (.int .i64 (0 : Int)) w_9)))))))
   ∧ (
    (decide (level < ((10 : Nat) : Int))) = false → (
    -- umlautref17.go:255
    R (.int .i64 (0 : Int)) w_9)))))))))))))))
def Sh.ref17_Parser_opOf_h : Vc.H := (.seq (.reg (.p 0 0 (.done 0))) (.seq (.reg (.p 0 0 (.p 1 0 (.o 2 0 (.p 3 0 (.o 4 0 (.p 5 0 (.p 6 0 (.o 7 0 (.p 8 0 (.o 9 0 (.p 10 0 (.p 11 0 (.o 12 0 (.p 13 0 (.p 14 0 (.p 15 0 (.o 16 0 (.p 17 0 (.p 18 0 (.p 19 0 (.o 20 0 (.o 21 0 (.p 22 0 (.done 0))))))))))))))))))))))))) (.seq (.seq (.reg (.p 0 0 (.done 0))) (.block (.loop [((0, 6), .int .i64)] [(0, 29), (0, 30), (0, 31), (0, 32), (0, 33), (0, 34), (0, 35), (0, 36), (0, 37), (0, 38), (0, 39), (0, 40), (0, 41), (0, 44), (0, 45), (0, 46), (0, 47), (0, 48), (0, 49), (0, 50), (0, 51), (0, 52), (0, 53), (0, 54), (0, 55), (0, 56), (0, 57), (0, 58), (0, 59), (0, 60), (0, 61), (0, 4), (0, 42), (0, 43)] (.seq (.seq (.reg (.p 0 0 (.p 1 0 (.p 2 0 (.p 3 0 (.p 4 0 (.p 5 0 (.p 6 0 (.p 7 0 (.p 8 0 (.s 33 (.o 9 0 (.p 10 8 (.p 11 8 (.p 12 1 (.done 0))))) (.sk 9 (.sk 10 (.sk 11 (.p 12 1 (.done 1)))))))))))))))) (.alt (.cond false (.nil 0) (.nil 0)) (.cond true (.nil 0) (.nil 0)))) (.seq (.block (.seq (.reg (.p 0 0 (.p 1 0 (.p 2 0 (.p 3 0 (.o 4 0 (.p 5 0 (.p 6 1 (.p 7 0 (.o 8 0 (.o 9 0 (.done 0)))))))))))) (.cond false (.seq (.reg (.p 0 0 (.p 1 0 (.p 2 0 (.o 3 0 (.p 4 0 (.p 5 1 (.p 6 0 (.o 7 0 (.p 8 0 (.done 0))))))))))) (.nil 0)) (.nil 0)))) (.reg (.p 0 0 (.p 1 0 (.p 2 0 (.done 0)))))))))) (.seq (.reg (.p 0 0 (.done 0))) (.nil 0)))))
theorem Sh.ref17_Parser_opOf_eq (p : Addr) (level : Int) (w : World) (R : Value → World → Prop) : Sh.ref17_Parser_opOf p level w R = Vc.vcFn Try.prog tab okF Try.f42 Sh.ref17_Parser_opOf_h [.pointer (some p), .int .i64 level] w R := by kernel_rfl
theorem Sh.ref17_Parser_opOf_calls (p : Addr) (level : Int) {w : World} {R : Value → World → Prop} (h : Sh.ref17_Parser_opOf p level w R) : Calls Try.prog 42 #[.pointer (some p), .int .i64 level] w fun e w' => ∃ v, e = .returned v ∧ R v w' :=
  Vc.fn_calls mixed tabOk okF_ok Try.func42 (by kernel_rfl) (by kernel_rfl) (by rw [← Sh.ref17_Parser_opOf_eq p level]; exact h)

def Sh.ref17_Parser_kind (p : Addr) (w : World) (R : Value → World → Prop) : Prop :=
  -- umlautref17.go:179
  -- umlautref17.go:180 (draws)
  ∀ w_1 : World,
  Vc.Fr (fun k => False) w w_1 → (
  ∃ t6 : Int,
  w_1.cell? (p.add 1) = some (.int .i64 t6) ∧ (
  ∃ (t10 : Option Addr) (t10_len t10_cap : Nat),
  w_1.cell? p = some (.slice t10 t10_len t10_cap) ∧ (
  (
   (decide (t6 < ((t10_len : Nat) : Int))) = true → (
   -- umlautref17.go:181 (draws)
   ∀ w_2 : World,
   Vc.Fr (fun k => False) w_1 w_2 → (
   ∃ (t16 : Option Addr) (t16_len t16_cap : Nat),
   w_2.cell? p = some (.slice t16 t16_len t16_cap) ∧ (
   ∃ t20 : Int,
   w_2.cell? (p.add 1) = some (.int .i64 t20) ∧ (
   ∃ p_1 : Addr,
   t16 = some p_1 ∧ (
   (0 ≤ t20 ∧ t20 < ((t16_len : Nat) : Int)) ∧ (
   ∃ t23 : Int,
   w_2.cell? (p_1.add (t20.toNat * 4)) = some (.int .i64 t23) ∧ (
   R (.int .i64 t23) w_2))))))))
  ∧ (
   (decide (t6 < ((t10_len : Nat) : Int))) = false → (
   -- umlautref17.go:183
   R (.int .i64 (0 : Int)) w_1)))))
def Sh.ref17_Parser_kind_h : Vc.H := (.seq (.reg (.p 0 0 (.done 0))) (.seq (.seq (.draw false [] (.p 0 0 (.p 1 0 (.p 2 0 (.l 3 (.p 4 0 (.p 5 0 (.p 6 0 (.l 7 (.p 8 0 (.p 9 0 (.done 0)))))))))))) (.cond false (.seq (.draw false [] (.p 0 0 (.p 1 0 (.p 2 0 (.l 3 (.p 4 0 (.p 5 0 (.p 6 0 (.l 7 (.p 8 1 (.p 9 0 (.l 10 (.p 11 0 (.done 0)))))))))))))) (.nil 0)) (.nil 0))) (.seq (.reg (.p 0 0 (.done 0))) (.nil 0))))
theorem Sh.ref17_Parser_kind_eq (p : Addr) (w : World) (R : Value → World → Prop) : Sh.ref17_Parser_kind p w R = Vc.vcFn Try.prog tab okF Try.f52 Sh.ref17_Parser_kind_h [.pointer (some p)] w R := by kernel_rfl
theorem Sh.ref17_Parser_kind_calls (p : Addr) {w : World} {R : Value → World → Prop} (h : Sh.ref17_Parser_kind p w R) : Calls Try.prog 52 #[.pointer (some p)] w fun e w' => ∃ v, e = .returned v ∧ R v w' :=
  Vc.fn_calls mixed tabOk okF_ok Try.func52 (by kernel_rfl) (by kernel_rfl) (by rw [← Sh.ref17_Parser_kind_eq p]; exact h)

def Sh.ref17_Parser_want (p : Addr) (s : ByteArray) (w : World) (R : Value → World → Prop) : Prop :=
  -- umlautref17.go:215
  Calls Try.prog 40 #[.pointer (some p), .string s] w fun (e : Ending) (w_1 : World) => (
  ∃ r_take : Bool,
  e = .returned (.bool r_take) ∧ (
  (
   (!r_take) = true → (
   -- umlautref17.go:216
   Calls Try.prog 31 #[.pointer (some p), .int .i64 (10 : Int)] w_1 fun (e : Ending) (w_2 : World) => (
   e = .returned (.tuple #[]) ∧ (
   R (.tuple #[]) w_2))))
  ∧ (
   (!r_take) = false → (
   R (.tuple #[]) w_1))))
def Sh.ref17_Parser_want_h : Vc.H := (.seq (.reg (.p 0 0 (.p 1 0 (.o 2 0 (.p 3 0 (.done 0)))))) (.cond false (.reg (.p 0 0 (.o 1 0 (.done 0)))) (.nil 0)))
theorem Sh.ref17_Parser_want_eq (p : Addr) (s : ByteArray) (w : World) (R : Value → World → Prop) : Sh.ref17_Parser_want p s w R = Vc.vcFn Try.prog tab okF Try.f53 Sh.ref17_Parser_want_h [.pointer (some p), .string s] w R := by kernel_rfl
theorem Sh.ref17_Parser_want_calls (p : Addr) (s : ByteArray) {w : World} {R : Value → World → Prop} (h : Sh.ref17_Parser_want p s w R) : Calls Try.prog 53 #[.pointer (some p), .string s] w fun e w' => ∃ v, e = .returned v ∧ R v w' :=
  Vc.fn_calls mixed tabOk okF_ok Try.func53 (by kernel_rfl) (by kernel_rfl) (by rw [← Sh.ref17_Parser_want_eq p s]; exact h)

def Sh.ref17_Parser_list (p : Addr) (w : World) (R : Value → World → Prop) : Prop :=
  -- umlautref17.go:356
  -- umlautref17.go:357
  -- umlautref17.go:358
  ∃ t7 : Int,
  w.cell? (p.add 2) = some (.int .i64 t7) ∧ (
  (
   (t7 != (0 : Int)) = true → (
   -- umlautref17.go:359
   Calls Try.prog 31 #[.pointer (some p), .int .i64 (10 : Int)] w fun (e : Ending) (w_1 : World) => (
   e = .returned (.tuple #[]) ∧ (
   -- umlautref17.go:360
   R (.slice none 0 0) w_1))))
  ∧ (
   (t7 != (0 : Int)) = false → (
   (!(t7 != (0 : Int))) = true ∧ (
   Calls Try.prog 36 #[.pointer (some p), .string (⟨#[40]⟩ : ByteArray)] w fun (e : Ending) (w_2 : World) => (
   ∃ r_is : Bool,
   e = .returned (.bool r_is) ∧ (
   (
    (!r_is) = true → (
    -- umlautref17.go:359
    Calls Try.prog 31 #[.pointer (some p), .int .i64 (10 : Int)] w_2 fun (e : Ending) (w_3 : World) => (
    e = .returned (.tuple #[]) ∧ (
    -- umlautref17.go:360
    R (.slice none 0 0) w_3))))
   ∧ (
    (!r_is) = false → (
    -- umlautref17.go:362
    Calls Try.prog 37 #[.pointer (some p)] w_2 fun (e : Ending) (w_4 : World) => (
    ∃ r_in : Bool,
    e = .returned (.bool r_in) ∧ (
    (
     (!r_in) = true → (
     -- umlautref17.go:363
     R (.slice none 0 0) w_4))
    ∧ (
     (!r_in) = false → (
     -- umlautref17.go:365
     ∃ t22 : Int,
     w_4.cell? (p.add 1) = some (.int .i64 t22) ∧ (
     (w_4.cell? (p.add 1)).isSome = true ∧ (
     w_4.frozen? (p.add 1) = false ∧ (
     -- LOOP 27: out
     ∃ (I : Option Addr → Nat → Nat → World → Prop) (μ : Option Addr → Nat → Nat → World → Nat),
     (
      I none 0 0 (w_4.setCell (p.add 1) (.int .i64 (IntKind.i64.wrap (t22 + (1 : Int))))))
     ∧ (
      ∀ (out : Option Addr) (out_len out_cap : Nat),
      ∀ w_5 : World,
      I out out_len out_cap w_5 → (
      -- umlautref17.go:366
      ∃ t29 : Int,
      w_5.cell? (p.add 2) = some (.int .i64 t29) ∧ (
      (
       (t29 == (0 : Int)) = true → (
       -- umlautref17.go:367
       Calls Try.prog 30 #[.pointer (some p), .int .i64 (1 : Int)] w_5 fun (e : Ending) (w_6 : World) => (
       ∃ r_Expr_Kind : Int,
       ∃ r_Expr_Op : Int,
       ∃ r_Expr_S : ByteArray,
       ∃ r_Expr_T : ByteArray,
       ∃ r_Expr_N : Int,
       ∃ (r_Expr_L : Option Addr) (r_Expr_L_len r_Expr_L_cap : Nat),
       e = .returned (.agg #[.int .i64 r_Expr_Kind, .int .i64 r_Expr_Op, .string r_Expr_S, .string r_Expr_T, .int .i64 r_Expr_N, .slice r_Expr_L r_Expr_L_len r_Expr_L_cap]) ∧ (
       ∀ w_7 : World,
       w_7 = w_6.alloc (.cells #[.int .i64 r_Expr_Kind, .int .i64 r_Expr_Op, .string r_Expr_S, .string r_Expr_T, .int .i64 r_Expr_N, .slice r_Expr_L r_Expr_L_len r_Expr_L_cap] 24) → (
       ∃ (t35 : Option Addr) (t35_len t35_cap : Nat),
       ∃ w_8 : World,
       (Builtin.append_ #[22, 22] 22 #[.slice out out_len out_cap, .slice (some (⟨w_6.heap.size, 0, none⟩ : Addr)) 1 1]).run Try.prog w_7 = .ok (.slice t35 t35_len t35_cap) w_8 ∧ (
       -- umlautref17.go:368
       Calls Try.prog 40 #[.pointer (some p), .string (⟨#[44]⟩ : ByteArray)] w_8 fun (e : Ending) (w_9 : World) => (
       ∃ r_take : Bool,
       e = .returned (.bool r_take) ∧ (
       (
        (!r_take) = true → (
        -- umlautref17.go:372
        Calls Try.prog 53 #[.pointer (some p), .string (⟨#[41]⟩ : ByteArray)] w_9 fun (e : Ending) (w_10 : World) => (
        e = .returned (.tuple #[]) ∧ (
        -- umlautref17.go:373
        ∃ t44 : Int,
        w_10.cell? (p.add 4) = some (.int .i64 t44) ∧ (
        (w_10.cell? (p.add 4)).isSome = true ∧ (
        w_10.frozen? (p.add 4) = false ∧ (
        -- umlautref17.go:374
        R (.slice t35 t35_len t35_cap) (w_10.setCell (p.add 4) (.int .i64 (IntKind.i64.wrap (t44 - (1 : Int))))))))))))
       ∧ (
        (!r_take) = false → (
        I t35 t35_len t35_cap w_9 ∧ μ t35 t35_len t35_cap w_9 < μ out out_len out_cap w_5))))))))))
      ∧ (
       (t29 == (0 : Int)) = false → (
       -- umlautref17.go:372
       Calls Try.prog 53 #[.pointer (some p), .string (⟨#[41]⟩ : ByteArray)] w_5 fun (e : Ending) (w_11 : World) => (
       e = .returned (.tuple #[]) ∧ (
       -- umlautref17.go:373
       ∃ t44_1 : Int,
       w_11.cell? (p.add 4) = some (.int .i64 t44_1) ∧ (
       (w_11.cell? (p.add 4)).isSome = true ∧ (
       w_11.frozen? (p.add 4) = false ∧ (
       -- umlautref17.go:374
       R (.slice out out_len out_cap) (w_11.setCell (p.add 4) (.int .i64 (IntKind.i64.wrap (t44_1 - (1 : Int))))))))))))))))))))))))))))))
def Sh.ref17_Parser_list_h : Vc.H := (.seq (.reg (.p 0 0 (.done 0))) (.seq (.reg (.p 0 0 (.done 0))) (.seq (.seq (.reg (.p 0 0 (.p 1 0 (.p 2 0 (.o 3 0 (.p 4 0 (.p 5 0 (.p 6 0 (.s 9 (.sk 7 (.sk 8 (.p 9 1 (.done 0)))) (.o 7 0 (.p 8 8 (.p 9 1 (.done 1))))))))))))) (.alt (.cond true (.seq (.reg (.p 0 0 (.o 1 0 (.done 0)))) (.seq (.reg (.p 0 0 (.done 0))) (.nil 0))) (.nil 0)) (.cond false (.seq (.reg (.p 0 0 (.o 1 0 (.done 0)))) (.seq (.reg (.p 0 0 (.done 0))) (.nil 0))) (.nil 0)))) (.seq (.seq (.reg (.p 0 0 (.o 1 0 (.p 2 0 (.done 0))))) (.cond false (.seq (.reg (.p 0 0 (.done 0))) (.nil 0)) (.nil 0))) (.seq (.reg (.p 0 0 (.p 1 0 (.p 2 0 (.o 3 0 (.p 4 0 (.p 5 0 (.p 6 0 (.o 7 0 (.done 0)))))))))) (.seq (.block (.loop [((0, 3), .slice)] [(0, 26), (0, 27), (0, 28), (0, 29), (0, 30), (0, 31), (0, 32), (0, 33), (0, 34), (0, 35), (0, 36), (0, 37), (0, 38)] (.seq (.seq (.reg (.p 0 0 (.p 1 0 (.p 2 0 (.o 3 0 (.p 4 0 (.done 0))))))) (.cond false (.nil 0) (.nil 0))) (.block (.seq (.reg (.p 0 0 (.p 1 0 (.o 2 0 (.o 3 0 (.o 4 9 (.p 5 0 (.done 0)))))))) (.seq (.reg (.p 0 0 (.o 1 0 (.p 2 0 (.done 0))))) (.cond false (.nil 0) (.nil 0)))))))) (.seq (.reg (.p 0 0 (.o 1 0 (.done 0)))) (.seq (.reg (.p 0 0 (.p 1 0 (.p 2 0 (.o 3 0 (.p 4 0 (.p 5 0 (.p 6 0 (.o 7 0 (.done 0)))))))))) (.seq (.reg (.p 0 0 (.p 1 0 (.done 0)))) (.nil 0))))))))))
theorem Sh.ref17_Parser_list_eq (p : Addr) (w : World) (R : Value → World → Prop) : Sh.ref17_Parser_list p w R = Vc.vcFn Try.prog tab okF Try.f54 Sh.ref17_Parser_list_h [.pointer (some p)] w R := by kernel_rfl
theorem Sh.ref17_Parser_list_calls (p : Addr) {w : World} {R : Value → World → Prop} (h : Sh.ref17_Parser_list p w R) : Calls Try.prog 54 #[.pointer (some p)] w fun e w' => ∃ v, e = .returned v ∧ R v w' :=
  Vc.fn_calls mixed tabOk okF_ok Try.func54 (by kernel_rfl) (by kernel_rfl) (by rw [← Sh.ref17_Parser_list_eq p]; exact h)

def Sh.ref17_Parser_named (p : Addr) (w : World) (R : Value → World → Prop) : Prop :=
  -- umlautref17.go:439
  ∀ b2 : Nat,
  w.heap.size ≤ b2 → (
  -- umlautref17.go:440
  ∀ w_1 : World,
  Vc.Fr (fun k => k = b2) w w_1 → (
  b2 < w_1.heap.size → (
  Calls Try.prog 41 #[.pointer (some p)] w_1 fun (e : Ending) (w_2 : World) => (
  ∃ r_name : ByteArray,
  e = .returned (.string r_name) ∧ (
  (b2 < w_1.heap.size → w_2.heap[b2]? = w_1.heap[b2]?) ∧ (
  -- umlautref17.go:441
  Calls Try.prog 40 #[.pointer (some p), .string (⟨#[46]⟩ : ByteArray)] w_2 fun (e : Ending) (w_3 : World) => (
  ∃ r_take : Bool,
  e = .returned (.bool r_take) ∧ (
  (b2 < w_2.heap.size → w_3.heap[b2]? = w_2.heap[b2]?) ∧ (
  (
   r_take = true → (
   -- umlautref17.go:442
   Calls Try.prog 41 #[.pointer (some p)] w_3 fun (e : Ending) (w_4 : World) => (
   ∃ r_name_1 : ByteArray,
   e = .returned (.string r_name_1) ∧ (
   (b2 < w_3.heap.size → w_4.heap[b2]? = w_3.heap[b2]?) ∧ (
   ∀ w_5 : World,
   Vc.Fr (fun k => k = b2) w_4 w_5 → (
   b2 < w_5.heap.size → (
   R (.agg #[.int .i64 (4 : Int), .int .i64 (0 : Int), .string r_name_1, .string r_name, .int .i64 (0 : Int), .slice none 0 0]) w_5)))))))
  ∧ (
   r_take = false → (
   -- umlautref17.go:444
   Calls Try.prog 36 #[.pointer (some p), .string (⟨#[40]⟩ : ByteArray)] w_3 fun (e : Ending) (w_6 : World) => (
   ∃ r_is : Bool,
   e = .returned (.bool r_is) ∧ (
   (b2 < w_3.heap.size → w_6.heap[b2]? = w_3.heap[b2]?) ∧ (
   (
    (!r_is) = true → (
    -- umlautref17.go:445
    ∀ w_7 : World,
    Vc.Fr (fun k => k = b2) w_6 w_7 → (
    b2 < w_7.heap.size → (
    R (.agg #[.int .i64 (4 : Int), .int .i64 (0 : Int), .string r_name, .string (⟨#[]⟩ : ByteArray), .int .i64 (0 : Int), .slice none 0 0]) w_7))))
   ∧ (
    (!r_is) = false → (
    -- umlautref17.go:447
    ∃ t21 : Int,
    w_6.cell? (p.add 1) = some (.int .i64 t21) ∧ (
    (p.add 1).block ≠ b2 ∧ (
    (w_6.cell? (p.add 1)).isSome = true ∧ (
    w_6.frozen? (p.add 1) = false ∧ (
    -- umlautref17.go:448
    Calls Try.prog 37 #[.pointer (some p)] (w_6.setCell (p.add 1) (.int .i64 (IntKind.i64.wrap (t21 - (1 : Int))))) fun (e : Ending) (w_8 : World) => (
    ∃ r_in : Bool,
    e = .returned (.bool r_in) ∧ (
    (b2 < (w_6.setCell (p.add 1) (.int .i64 (IntKind.i64.wrap (t21 - (1 : Int))))).heap.size → w_8.heap[b2]? = (w_6.setCell (p.add 1) (.int .i64 (IntKind.i64.wrap (t21 - (1 : Int))))).heap[b2]?) ∧ (
    (
     (!r_in) = true → (
     -- umlautref17.go:449
     ∀ w_9 : World,
     Vc.Fr (fun k => k = b2) w_8 w_9 → (
     b2 < w_9.heap.size → (
     R (.agg #[.int .i64 (0 : Int), .int .i64 (0 : Int), .string (⟨#[]⟩ : ByteArray), .string (⟨#[]⟩ : ByteArray), .int .i64 (0 : Int), .slice none 0 0]) w_9))))
    ∧ (
     (!r_in) = false → (
     -- umlautref17.go:451
     ∃ t33 : Int,
     w_8.cell? (p.add 1) = some (.int .i64 t33) ∧ (
     (p.add 1).block ≠ b2 ∧ (
     (w_8.cell? (p.add 1)).isSome = true ∧ (
     w_8.frozen? (p.add 1) = false ∧ (
     -- umlautref17.go:452
     ∀ b_n : Nat,
     (w_8.setCell (p.add 1) (.int .i64 (IntKind.i64.wrap (t33 + (2 : Int))))).heap.size ≤ b_n → (
     b_n ≠ b2 → (
     -- umlautref17.go:453
     ((!(r_name.toList == (⟨#[99, 111, 117, 110, 116]⟩ : ByteArray).toList)) = true → (!(r_name.toList == (⟨#[99, 111, 117, 110, 116]⟩ : ByteArray).toList)) = true) ∧ (
     ((r_name.toList == (⟨#[99, 111, 117, 110, 116]⟩ : ByteArray).toList) = false → (!(r_name.toList == (⟨#[99, 111, 117, 110, 116]⟩ : ByteArray).toList)) = true) ∧ (
     ((!((r_name.toList == (⟨#[99, 111, 117, 110, 116]⟩ : ByteArray).toList) || (r_name.toList == (⟨#[115, 117, 109]⟩ : ByteArray).toList))) = true → (!((r_name.toList == (⟨#[99, 111, 117, 110, 116]⟩ : ByteArray).toList) || (r_name.toList == (⟨#[115, 117, 109]⟩ : ByteArray).toList))) = true) ∧ (
     (((r_name.toList == (⟨#[99, 111, 117, 110, 116]⟩ : ByteArray).toList) || (r_name.toList == (⟨#[115, 117, 109]⟩ : ByteArray).toList)) = false → (!((r_name.toList == (⟨#[99, 111, 117, 110, 116]⟩ : ByteArray).toList) || (r_name.toList == (⟨#[115, 117, 109]⟩ : ByteArray).toList))) = true) ∧ (
     ((!(((r_name.toList == (⟨#[99, 111, 117, 110, 116]⟩ : ByteArray).toList) || (r_name.toList == (⟨#[115, 117, 109]⟩ : ByteArray).toList)) || (r_name.toList == (⟨#[109, 105, 110]⟩ : ByteArray).toList))) = true → (!(((r_name.toList == (⟨#[99, 111, 117, 110, 116]⟩ : ByteArray).toList) || (r_name.toList == (⟨#[115, 117, 109]⟩ : ByteArray).toList)) || (r_name.toList == (⟨#[109, 105, 110]⟩ : ByteArray).toList))) = true) ∧ (
     ((((r_name.toList == (⟨#[99, 111, 117, 110, 116]⟩ : ByteArray).toList) || (r_name.toList == (⟨#[115, 117, 109]⟩ : ByteArray).toList)) || (r_name.toList == (⟨#[109, 105, 110]⟩ : ByteArray).toList)) = false → (!(((r_name.toList == (⟨#[99, 111, 117, 110, 116]⟩ : ByteArray).toList) || (r_name.toList == (⟨#[115, 117, 109]⟩ : ByteArray).toList)) || (r_name.toList == (⟨#[109, 105, 110]⟩ : ByteArray).toList))) = true) ∧ (
     (
      ((((r_name.toList == (⟨#[99, 111, 117, 110, 116]⟩ : ByteArray).toList) || (r_name.toList == (⟨#[115, 117, 109]⟩ : ByteArray).toList)) || (r_name.toList == (⟨#[109, 105, 110]⟩ : ByteArray).toList)) || (r_name.toList == (⟨#[109, 97, 120]⟩ : ByteArray).toList)) = true → (
      -- umlautref17.go:454
      -- umlautref17.go:456
      (
       (!(r_name.toList == (⟨#[99, 111, 117, 110, 116]⟩ : ByteArray).toList)) = true → (
       -- umlautref17.go:457
       ∀ w_10 : World,
       Vc.Fr (fun k => k = b_n ∨ k = b2) (w_8.setCell (p.add 1) (.int .i64 (IntKind.i64.wrap (t33 + (2 : Int))))) w_10 → (
       b_n < w_10.heap.size → (
       b2 < w_10.heap.size → (
       Calls Try.prog 30 #[.pointer (some p), .int .i64 (1 : Int)] w_10 fun (e : Ending) (w_11 : World) => (
       ∃ r_Expr_Kind : Int,
       ∃ r_Expr_Op : Int,
       ∃ r_Expr_S : ByteArray,
       ∃ r_Expr_T : ByteArray,
       ∃ r_Expr_N : Int,
       ∃ (r_Expr_L : Option Addr) (r_Expr_L_len r_Expr_L_cap : Nat),
       e = .returned (.agg #[.int .i64 r_Expr_Kind, .int .i64 r_Expr_Op, .string r_Expr_S, .string r_Expr_T, .int .i64 r_Expr_N, .slice r_Expr_L r_Expr_L_len r_Expr_L_cap]) ∧ (
       (b_n < w_10.heap.size → w_11.heap[b_n]? = w_10.heap[b_n]?) ∧ (
       (b2 < w_10.heap.size → w_11.heap[b2]? = w_10.heap[b2]?) ∧ (
       ∀ w_12 : World,
       w_12 = w_11.alloc (.cells #[.int .i64 r_Expr_Kind, .int .i64 r_Expr_Op, .string r_Expr_S, .string r_Expr_T, .int .i64 r_Expr_N, .slice r_Expr_L r_Expr_L_len r_Expr_L_cap] 24) → (
       -- umlautref17.go:459
       ∀ w_13 : World,
       Vc.Fr (fun k => k = b_n ∨ k = b2) w_12 w_13 → (
       b_n < w_13.heap.size → (
       b2 < w_13.heap.size → (
       Calls Try.prog 53 #[.pointer (some p), .string (⟨#[41]⟩ : ByteArray)] w_13 fun (e : Ending) (w_14 : World) => (
       e = .returned (.tuple #[]) ∧ (
       (b_n < w_13.heap.size → w_14.heap[b_n]? = w_13.heap[b_n]?) ∧ (
       (b2 < w_13.heap.size → w_14.heap[b2]? = w_13.heap[b2]?) ∧ (
       -- umlautref17.go:460
       ∃ t70 : Int,
       w_14.cell? (p.add 4) = some (.int .i64 t70) ∧ (
       (p.add 4).block ≠ b_n ∧ (
       (p.add 4).block ≠ b2 ∧ (
       (w_14.cell? (p.add 4)).isSome = true ∧ (
       w_14.frozen? (p.add 4) = false ∧ (
       -- umlautref17.go:461
       ∀ w_15 : World,
       Vc.Fr (fun k => k = b_n ∨ k = b2) (w_14.setCell (p.add 4) (.int .i64 (IntKind.i64.wrap (t70 - (1 : Int))))) w_15 → (
       b_n < w_15.heap.size → (
       b2 < w_15.heap.size → (
       R (.agg #[.int .i64 (14 : Int), .int .i64 (0 : Int), .string r_name, .string (⟨#[]⟩ : ByteArray), .int .i64 (0 : Int), .slice (some (⟨w_11.heap.size, 0, none⟩ : Addr)) 1 1]) w_15)))))))))))))))))))))))))
      ∧ (
       (!(r_name.toList == (⟨#[99, 111, 117, 110, 116]⟩ : ByteArray).toList)) = false → (
       (!(!(r_name.toList == (⟨#[99, 111, 117, 110, 116]⟩ : ByteArray).toList))) = true ∧ (
       ∀ w_16 : World,
       Vc.Fr (fun k => k = b_n ∨ k = b2) (w_8.setCell (p.add 1) (.int .i64 (IntKind.i64.wrap (t33 + (2 : Int))))) w_16 → (
       b_n < w_16.heap.size → (
       b2 < w_16.heap.size → (
       Calls Try.prog 40 #[.pointer (some p), .string (⟨#[42]⟩ : ByteArray)] w_16 fun (e : Ending) (w_17 : World) => (
       ∃ r_take_1 : Bool,
       e = .returned (.bool r_take_1) ∧ (
       (b_n < w_16.heap.size → w_17.heap[b_n]? = w_16.heap[b_n]?) ∧ (
       (b2 < w_16.heap.size → w_17.heap[b2]? = w_16.heap[b2]?) ∧ (
       (
        (!r_take_1) = true → (
        -- umlautref17.go:457
        Calls Try.prog 30 #[.pointer (some p), .int .i64 (1 : Int)] w_17 fun (e : Ending) (w_18 : World) => (
        ∃ r_Expr_Kind_1 : Int,
        ∃ r_Expr_Op_1 : Int,
        ∃ r_Expr_S_1 : ByteArray,
        ∃ r_Expr_T_1 : ByteArray,
        ∃ r_Expr_N_1 : Int,
        ∃ (r_Expr_L_1 : Option Addr) (r_Expr_L_len_1 r_Expr_L_cap_1 : Nat),
        e = .returned (.agg #[.int .i64 r_Expr_Kind_1, .int .i64 r_Expr_Op_1, .string r_Expr_S_1, .string r_Expr_T_1, .int .i64 r_Expr_N_1, .slice r_Expr_L_1 r_Expr_L_len_1 r_Expr_L_cap_1]) ∧ (
        (b_n < w_17.heap.size → w_18.heap[b_n]? = w_17.heap[b_n]?) ∧ (
        (b2 < w_17.heap.size → w_18.heap[b2]? = w_17.heap[b2]?) ∧ (
        ∀ w_19 : World,
        w_19 = w_18.alloc (.cells #[.int .i64 r_Expr_Kind_1, .int .i64 r_Expr_Op_1, .string r_Expr_S_1, .string r_Expr_T_1, .int .i64 r_Expr_N_1, .slice r_Expr_L_1 r_Expr_L_len_1 r_Expr_L_cap_1] 24) → (
        -- umlautref17.go:459
        ∀ w_20 : World,
        Vc.Fr (fun k => k = b_n ∨ k = b2) w_19 w_20 → (
        b_n < w_20.heap.size → (
        b2 < w_20.heap.size → (
        Calls Try.prog 53 #[.pointer (some p), .string (⟨#[41]⟩ : ByteArray)] w_20 fun (e : Ending) (w_21 : World) => (
        e = .returned (.tuple #[]) ∧ (
        (b_n < w_20.heap.size → w_21.heap[b_n]? = w_20.heap[b_n]?) ∧ (
        (b2 < w_20.heap.size → w_21.heap[b2]? = w_20.heap[b2]?) ∧ (
        -- umlautref17.go:460
        ∃ t70_1 : Int,
        w_21.cell? (p.add 4) = some (.int .i64 t70_1) ∧ (
        (p.add 4).block ≠ b_n ∧ (
        (p.add 4).block ≠ b2 ∧ (
        (w_21.cell? (p.add 4)).isSome = true ∧ (
        w_21.frozen? (p.add 4) = false ∧ (
        -- umlautref17.go:461
        ∀ w_22 : World,
        Vc.Fr (fun k => k = b_n ∨ k = b2) (w_21.setCell (p.add 4) (.int .i64 (IntKind.i64.wrap (t70_1 - (1 : Int))))) w_22 → (
        b_n < w_22.heap.size → (
        b2 < w_22.heap.size → (
        R (.agg #[.int .i64 (14 : Int), .int .i64 (0 : Int), .string r_name, .string (⟨#[]⟩ : ByteArray), .int .i64 (0 : Int), .slice (some (⟨w_18.heap.size, 0, none⟩ : Addr)) 1 1]) w_22))))))))))))))))))))))
       ∧ (
        (!r_take_1) = false → (
        -- umlautref17.go:459
        Calls Try.prog 53 #[.pointer (some p), .string (⟨#[41]⟩ : ByteArray)] w_17 fun (e : Ending) (w_23 : World) => (
        e = .returned (.tuple #[]) ∧ (
        (b_n < w_17.heap.size → w_23.heap[b_n]? = w_17.heap[b_n]?) ∧ (
        (b2 < w_17.heap.size → w_23.heap[b2]? = w_17.heap[b2]?) ∧ (
        -- umlautref17.go:460
        ∃ t70_2 : Int,
        w_23.cell? (p.add 4) = some (.int .i64 t70_2) ∧ (
        (p.add 4).block ≠ b_n ∧ (
        (p.add 4).block ≠ b2 ∧ (
        (w_23.cell? (p.add 4)).isSome = true ∧ (
        w_23.frozen? (p.add 4) = false ∧ (
        -- umlautref17.go:461
        ∀ w_24 : World,
        Vc.Fr (fun k => k = b_n ∨ k = b2) (w_23.setCell (p.add 4) (.int .i64 (IntKind.i64.wrap (t70_2 - (1 : Int))))) w_24 → (
        b_n < w_24.heap.size → (
        b2 < w_24.heap.size → (
        R (.agg #[.int .i64 (14 : Int), .int .i64 (0 : Int), .string r_name, .string (⟨#[]⟩ : ByteArray), .int .i64 (0 : Int), .slice none 0 0]) w_24))))))))))))))))))))))))))
     ∧ (
      ((((r_name.toList == (⟨#[99, 111, 117, 110, 116]⟩ : ByteArray).toList) || (r_name.toList == (⟨#[115, 117, 109]⟩ : ByteArray).toList)) || (r_name.toList == (⟨#[109, 105, 110]⟩ : ByteArray).toList)) || (r_name.toList == (⟨#[109, 97, 120]⟩ : ByteArray).toList)) = false → (
      -- umlautref17.go:456
      (
       (!(r_name.toList == (⟨#[99, 111, 117, 110, 116]⟩ : ByteArray).toList)) = true → (
       -- umlautref17.go:457
       ∀ w_25 : World,
       Vc.Fr (fun k => k = b_n ∨ k = b2) (w_8.setCell (p.add 1) (.int .i64 (IntKind.i64.wrap (t33 + (2 : Int))))) w_25 → (
       b_n < w_25.heap.size → (
       b2 < w_25.heap.size → (
       Calls Try.prog 30 #[.pointer (some p), .int .i64 (1 : Int)] w_25 fun (e : Ending) (w_26 : World) => (
       ∃ r_Expr_Kind_2 : Int,
       ∃ r_Expr_Op_2 : Int,
       ∃ r_Expr_S_2 : ByteArray,
       ∃ r_Expr_T_2 : ByteArray,
       ∃ r_Expr_N_2 : Int,
       ∃ (r_Expr_L_2 : Option Addr) (r_Expr_L_len_2 r_Expr_L_cap_2 : Nat),
       e = .returned (.agg #[.int .i64 r_Expr_Kind_2, .int .i64 r_Expr_Op_2, .string r_Expr_S_2, .string r_Expr_T_2, .int .i64 r_Expr_N_2, .slice r_Expr_L_2 r_Expr_L_len_2 r_Expr_L_cap_2]) ∧ (
       (b_n < w_25.heap.size → w_26.heap[b_n]? = w_25.heap[b_n]?) ∧ (
       (b2 < w_25.heap.size → w_26.heap[b2]? = w_25.heap[b2]?) ∧ (
       ∀ w_27 : World,
       w_27 = w_26.alloc (.cells #[.int .i64 r_Expr_Kind_2, .int .i64 r_Expr_Op_2, .string r_Expr_S_2, .string r_Expr_T_2, .int .i64 r_Expr_N_2, .slice r_Expr_L_2 r_Expr_L_len_2 r_Expr_L_cap_2] 24) → (
       -- umlautref17.go:459
       ∀ w_28 : World,
       Vc.Fr (fun k => k = b_n ∨ k = b2) w_27 w_28 → (
       b_n < w_28.heap.size → (
       b2 < w_28.heap.size → (
       Calls Try.prog 53 #[.pointer (some p), .string (⟨#[41]⟩ : ByteArray)] w_28 fun (e : Ending) (w_29 : World) => (
       e = .returned (.tuple #[]) ∧ (
       (b_n < w_28.heap.size → w_29.heap[b_n]? = w_28.heap[b_n]?) ∧ (
       (b2 < w_28.heap.size → w_29.heap[b2]? = w_28.heap[b2]?) ∧ (
       -- umlautref17.go:460
       ∃ t70_3 : Int,
       w_29.cell? (p.add 4) = some (.int .i64 t70_3) ∧ (
       (p.add 4).block ≠ b_n ∧ (
       (p.add 4).block ≠ b2 ∧ (
       (w_29.cell? (p.add 4)).isSome = true ∧ (
       w_29.frozen? (p.add 4) = false ∧ (
       -- umlautref17.go:461
       ∀ w_30 : World,
       Vc.Fr (fun k => k = b_n ∨ k = b2) (w_29.setCell (p.add 4) (.int .i64 (IntKind.i64.wrap (t70_3 - (1 : Int))))) w_30 → (
       b_n < w_30.heap.size → (
       b2 < w_30.heap.size → (
       R (.agg #[.int .i64 (13 : Int), .int .i64 (0 : Int), .string r_name, .string (⟨#[]⟩ : ByteArray), .int .i64 (0 : Int), .slice (some (⟨w_26.heap.size, 0, none⟩ : Addr)) 1 1]) w_30)))))))))))))))))))))))))
      ∧ (
       (!(r_name.toList == (⟨#[99, 111, 117, 110, 116]⟩ : ByteArray).toList)) = false → (
       (!(!(r_name.toList == (⟨#[99, 111, 117, 110, 116]⟩ : ByteArray).toList))) = true ∧ (
       ∀ w_31 : World,
       Vc.Fr (fun k => k = b_n ∨ k = b2) (w_8.setCell (p.add 1) (.int .i64 (IntKind.i64.wrap (t33 + (2 : Int))))) w_31 → (
       b_n < w_31.heap.size → (
       b2 < w_31.heap.size → (
       Calls Try.prog 40 #[.pointer (some p), .string (⟨#[42]⟩ : ByteArray)] w_31 fun (e : Ending) (w_32 : World) => (
       ∃ r_take_2 : Bool,
       e = .returned (.bool r_take_2) ∧ (
       (b_n < w_31.heap.size → w_32.heap[b_n]? = w_31.heap[b_n]?) ∧ (
       (b2 < w_31.heap.size → w_32.heap[b2]? = w_31.heap[b2]?) ∧ (
       (
        (!r_take_2) = true → (
        -- umlautref17.go:457
        Calls Try.prog 30 #[.pointer (some p), .int .i64 (1 : Int)] w_32 fun (e : Ending) (w_33 : World) => (
        ∃ r_Expr_Kind_3 : Int,
        ∃ r_Expr_Op_3 : Int,
        ∃ r_Expr_S_3 : ByteArray,
        ∃ r_Expr_T_3 : ByteArray,
        ∃ r_Expr_N_3 : Int,
        ∃ (r_Expr_L_3 : Option Addr) (r_Expr_L_len_3 r_Expr_L_cap_3 : Nat),
        e = .returned (.agg #[.int .i64 r_Expr_Kind_3, .int .i64 r_Expr_Op_3, .string r_Expr_S_3, .string r_Expr_T_3, .int .i64 r_Expr_N_3, .slice r_Expr_L_3 r_Expr_L_len_3 r_Expr_L_cap_3]) ∧ (
        (b_n < w_32.heap.size → w_33.heap[b_n]? = w_32.heap[b_n]?) ∧ (
        (b2 < w_32.heap.size → w_33.heap[b2]? = w_32.heap[b2]?) ∧ (
        ∀ w_34 : World,
        w_34 = w_33.alloc (.cells #[.int .i64 r_Expr_Kind_3, .int .i64 r_Expr_Op_3, .string r_Expr_S_3, .string r_Expr_T_3, .int .i64 r_Expr_N_3, .slice r_Expr_L_3 r_Expr_L_len_3 r_Expr_L_cap_3] 24) → (
        -- umlautref17.go:459
        ∀ w_35 : World,
        Vc.Fr (fun k => k = b_n ∨ k = b2) w_34 w_35 → (
        b_n < w_35.heap.size → (
        b2 < w_35.heap.size → (
        Calls Try.prog 53 #[.pointer (some p), .string (⟨#[41]⟩ : ByteArray)] w_35 fun (e : Ending) (w_36 : World) => (
        e = .returned (.tuple #[]) ∧ (
        (b_n < w_35.heap.size → w_36.heap[b_n]? = w_35.heap[b_n]?) ∧ (
        (b2 < w_35.heap.size → w_36.heap[b2]? = w_35.heap[b2]?) ∧ (
        -- umlautref17.go:460
        ∃ t70_4 : Int,
        w_36.cell? (p.add 4) = some (.int .i64 t70_4) ∧ (
        (p.add 4).block ≠ b_n ∧ (
        (p.add 4).block ≠ b2 ∧ (
        (w_36.cell? (p.add 4)).isSome = true ∧ (
        w_36.frozen? (p.add 4) = false ∧ (
        -- umlautref17.go:461
        ∀ w_37 : World,
        Vc.Fr (fun k => k = b_n ∨ k = b2) (w_36.setCell (p.add 4) (.int .i64 (IntKind.i64.wrap (t70_4 - (1 : Int))))) w_37 → (
        b_n < w_37.heap.size → (
        b2 < w_37.heap.size → (
        R (.agg #[.int .i64 (13 : Int), .int .i64 (0 : Int), .string r_name, .string (⟨#[]⟩ : ByteArray), .int .i64 (0 : Int), .slice (some (⟨w_33.heap.size, 0, none⟩ : Addr)) 1 1]) w_37))))))))))))))))))))))
       ∧ (
        (!r_take_2) = false → (
        -- umlautref17.go:459
        Calls Try.prog 53 #[.pointer (some p), .string (⟨#[41]⟩ : ByteArray)] w_32 fun (e : Ending) (w_38 : World) => (
        e = .returned (.tuple #[]) ∧ (
        (b_n < w_32.heap.size → w_38.heap[b_n]? = w_32.heap[b_n]?) ∧ (
        (b2 < w_32.heap.size → w_38.heap[b2]? = w_32.heap[b2]?) ∧ (
        -- umlautref17.go:460
        ∃ t70_5 : Int,
        w_38.cell? (p.add 4) = some (.int .i64 t70_5) ∧ (
        (p.add 4).block ≠ b_n ∧ (
        (p.add 4).block ≠ b2 ∧ (
        (w_38.cell? (p.add 4)).isSome = true ∧ (
        w_38.frozen? (p.add 4) = false ∧ (
        -- umlautref17.go:461
        ∀ w_39 : World,
        Vc.Fr (fun k => k = b_n ∨ k = b2) (w_38.setCell (p.add 4) (.int .i64 (IntKind.i64.wrap (t70_5 - (1 : Int))))) w_39 → (
        b_n < w_39.heap.size → (
        b2 < w_39.heap.size → (
        R (.agg #[.int .i64 (13 : Int), .int .i64 (0 : Int), .string r_name, .string (⟨#[]⟩ : ByteArray), .int .i64 (0 : Int), .slice none 0 0]) w_39)))))))))))))))))))))))))))))))))))))))))))))))))))))))))))))))
def Sh.ref17_Parser_named_h : Vc.H := (.seq (.reg (.o 0 1 (.done 0))) (.seq (.reg (.p 0 0 (.o 1 0 (.p 2 0 (.done 0))))) (.seq (.seq (.reg (.p 0 0 (.o 1 0 (.done 0)))) (.cond false (.seq (.reg (.p 0 0 (.p 1 0 (.o 2 0 (.p 3 0 (.o 4 0 (.done 0))))))) (.nil 0)) (.nil 0))) (.seq (.seq (.reg (.p 0 0 (.o 1 0 (.p 2 0 (.done 0))))) (.cond false (.seq (.reg (.p 0 0 (.p 1 0 (.o 2 0 (.done 0))))) (.nil 0)) (.nil 0))) (.seq (.reg (.p 0 0 (.p 1 0 (.p 2 0 (.o 3 0 (.p 4 0 (.p 5 0 (.p 6 0 (.o 7 0 (.done 0)))))))))) (.seq (.seq (.reg (.p 0 0 (.o 1 0 (.p 2 0 (.done 0))))) (.cond false (.seq (.reg (.p 0 0 (.o 1 0 (.done 0)))) (.nil 0)) (.nil 0))) (.seq (.reg (.p 0 0 (.p 1 0 (.p 2 0 (.p 3 0 (.o 4 0 (.p 5 0 (.p 6 0 (.p 7 0 (.o 8 0 (.done 0))))))))))) (.seq (.reg (.p 0 0 (.p 1 0 (.o 2 1 (.o 3 0 (.done 0)))))) (.seq (.seq (.reg (.p 0 0 (.p 1 0 (.p 2 0 (.p 3 0 (.p 4 0 (.p 5 0 (.p 6 0 (.p 7 0 (.p 8 0 (.p 9 0 (.p 10 0 (.p 11 0 (.p 12 0 (.p 13 0 (.done 0)))))))))))))))) (.cond false (.reg (.p 0 0 (.o 1 0 (.done 0)))) (.nil 0))) (.seq (.seq (.reg (.p 0 0 (.p 1 0 (.p 2 0 (.p 3 0 (.s 56 (.sk 4 (.sk 5 (.p 6 1 (.done 0)))) (.o 4 0 (.p 5 8 (.p 6 1 (.done 1)))))))))) (.alt (.cond true (.reg (.p 0 0 (.o 1 0 (.o 2 0 (.p 3 0 (.o 4 0 (.done 0))))))) (.nil 0)) (.cond false (.reg (.p 0 0 (.o 1 0 (.o 2 0 (.p 3 0 (.o 4 0 (.done 0))))))) (.nil 0)))) (.seq (.reg (.p 0 0 (.o 1 0 (.done 0)))) (.seq (.reg (.p 0 0 (.p 1 0 (.p 2 0 (.o 3 0 (.p 4 0 (.p 5 0 (.p 6 0 (.o 7 0 (.done 0)))))))))) (.seq (.reg (.p 0 0 (.o 1 0 (.done 0)))) (.nil 0))))))))))))))
theorem Sh.ref17_Parser_named_eq (p : Addr) (w : World) (R : Value → World → Prop) : Sh.ref17_Parser_named p w R = Vc.vcFn Try.prog tab okF Try.f55 Sh.ref17_Parser_named_h [.pointer (some p)] w R := by kernel_rfl
theorem Sh.ref17_Parser_named_calls (p : Addr) {w : World} {R : Value → World → Prop} (h : Sh.ref17_Parser_named p w R) : Calls Try.prog 55 #[.pointer (some p)] w fun e w' => ∃ v, e = .returned v ∧ R v w' :=
  Vc.fn_calls mixed tabOk okF_ok Try.func55 (by kernel_rfl) (by kernel_rfl) (by rw [← Sh.ref17_Parser_named_eq p]; exact h)

def Sh.ref17_Parser_typed (p : Addr) (w : World) (R : Value → World → Prop) : Prop :=
  -- umlautref17.go:427
  -- umlautref17.go:428
  ∀ w_1 : World,
  w_1 = w.alloc (.cells #[.string (⟨#[66, 79, 79, 76]⟩ : ByteArray), .string (⟨#[73, 78, 84]⟩ : ByteArray), .string (⟨#[84, 69, 88, 84]⟩ : ByteArray)] 9) → (
  -- umlautref17.go:429
  -- LOOP 9: i
  ∃ (I : Int → World → Prop) (μ : Int → World → Nat),
  (
   I (0 : Int) w_1)
  ∧ (
   ∀ (i : Int),
   ∀ w_2 : World,
   I i w_2 → (
   -- umlautref17.go:429
   (
    (decide (i < (3 : Int))) = true → (
    -- umlautref17.go:430
    (0 ≤ i ∧ i < ((3 : Nat) : Int)) ∧ (
    ∃ t14 : ByteArray,
    w_2.cell? ((⟨w.heap.size, 0, none⟩ : Addr).add (i.toNat * 1)) = some (.string t14) ∧ (
    Calls Try.prog 40 #[.pointer (some p), .string t14] w_2 fun (e : Ending) (w_3 : World) => (
    ∃ r_take : Bool,
    e = .returned (.bool r_take) ∧ (
    (
     r_take = true → (
     -- umlautref17.go:431
     R (.int .i64 (IntKind.i64.wrap ((1 : Int) + i))) w_3))
    ∧ (
     r_take = false → (
     -- umlautref17.go:429
     I (IntKind.i64.wrap (i + (1 : Int))) w_3 ∧ μ (IntKind.i64.wrap (i + (1 : Int))) w_3 < μ i w_2))))))))
   ∧ (
    (decide (i < (3 : Int))) = false → (
    -- umlautref17.go:434
    Calls Try.prog 31 #[.pointer (some p), .int .i64 (10 : Int)] w_2 fun (e : Ending) (w_4 : World) => (
    e = .returned (.tuple #[]) ∧ (
    -- umlautref17.go:435
    R (.int .i64 (0 : Int)) w_4)))))))
def Sh.ref17_Parser_typed_h : Vc.H := (.seq (.reg (.p 0 0 (.done 0))) (.seq (.reg (.o 0 0 (.p 1 0 (.done 0)))) (.seq (.seq (.reg (.p 0 0 (.done 0))) (.block (.loop [((0, 4), .int .i64)] [(0, 6), (0, 7), (0, 10), (0, 11), (0, 12), (0, 13), (0, 14), (0, 15), (0, 16), (0, 17), (0, 2), (0, 8), (0, 9)] (.seq (.seq (.reg (.p 0 0 (.p 1 0 (.done 0)))) (.cond false (.nil 0) (.nil 0))) (.seq (.block (.seq (.reg (.p 0 0 (.p 1 0 (.p 2 0 (.p 3 0 (.o 4 0 (.o 5 0 (.done 0)))))))) (.cond false (.seq (.reg (.p 0 0 (.p 1 0 (.p 2 0 (.done 0))))) (.nil 0)) (.nil 0)))) (.reg (.p 0 0 (.p 1 0 (.p 2 0 (.done 0)))))))))) (.seq (.reg (.p 0 0 (.o 1 0 (.done 0)))) (.seq (.reg (.p 0 0 (.done 0))) (.nil 0))))))
theorem Sh.ref17_Parser_typed_eq (p : Addr) (w : World) (R : Value → World → Prop) : Sh.ref17_Parser_typed p w R = Vc.vcFn Try.prog tab okF Try.f56 Sh.ref17_Parser_typed_h [.pointer (some p)] w R := by kernel_rfl
theorem Sh.ref17_Parser_typed_calls (p : Addr) {w : World} {R : Value → World → Prop} (h : Sh.ref17_Parser_typed p w R) : Calls Try.prog 56 #[.pointer (some p)] w fun e w' => ∃ v, e = .returned v ∧ R v w' :=
  Vc.fn_calls mixed tabOk okF_ok Try.func56 (by kernel_rfl) (by kernel_rfl) (by rw [← Sh.ref17_Parser_typed_eq p]; exact h)

end Go.Proofs.Ytjlkgedcpmoehaa
