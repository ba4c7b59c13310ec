/- The verification conditions of functions of the program, as Go.Vc reckons them: by gen.py. -/
import Derived.Test.YtjlkgedcpmoehaaTab
set_option linter.unusedVariables false
set_option maxRecDepth 100000
namespace Go.Proofs.Ytjlkgedcpmoehaa
open Go
open Go.Proofs

def Sh.ref17_Tokens (s : ByteArray) (w : World) (R : Value → World → Prop) : Prop :=
  -- umlautref17.go:111
  ∀ b2 : Nat,
  w.heap.size ≤ b2 → (
  -- umlautref17.go:112
  (
   (decide ((s.size : Int) > (4000 : Int))) = true → (
   -- umlautref17.go:113
   ∀ w_1 : World,
   Vc.Fr (fun k => k = b2) w w_1 → (
   b2 < w_1.heap.size → (
   R (.agg #[.slice none 0 0, .int .i64 (0 : Int), .int .i64 (2 : Int)]) w_1))))
  ∧ (
   (decide ((s.size : Int) > (4000 : Int))) = false → (
   -- umlautref17.go:115
   -- umlautref17.go:116
   -- LOOP 17: i, out, t2_L, t2_At, t2_E
   ∃ (I : Int → Option Addr → Nat → Nat → Option Addr → Nat → Nat → Int → Int → World → Prop) (μ : Int → Option Addr → Nat → Nat → Option Addr → Nat → Nat → Int → Int → World → Nat),
   (
    ∀ w_2 : World,
    Vc.Fr (fun k => k = b2) w w_2 → (
    b2 < w_2.heap.size → (
    I (0 : Int) none 0 0 none 0 0 (0 : Int) (0 : Int) w_2)))
   ∧ (
    ∀ (i : Int) (out : Option Addr) (out_len out_cap : Nat) (t2_L : Option Addr) (t2_L_len t2_L_cap : Nat) (t2_At : Int) (t2_E : Int),
    ∀ w_3 : World,
    I i out out_len out_cap t2_L t2_L_len t2_L_cap t2_At t2_E w_3 → (
    -- umlautref17.go:116
    (
     (decide (i < (s.size : Int))) = true → (
     -- umlautref17.go:117
     ∃ c : UInt8,
     (0 ≤ i ∧ s[i.toNat]? = some c) ∧ (
     -- umlautref17.go:118
     ((!((c.toNat : Int) == (32 : Int))) = true → (!((c.toNat : Int) == (32 : Int))) = true) ∧ (
     (((c.toNat : Int) == (32 : Int)) = false → (!((c.toNat : Int) == (32 : Int))) = true) ∧ (
     ((!(((c.toNat : Int) == (32 : Int)) || ((c.toNat : Int) == (9 : Int)))) = true → (!(((c.toNat : Int) == (32 : Int)) || ((c.toNat : Int) == (9 : Int)))) = true) ∧ (
     ((((c.toNat : Int) == (32 : Int)) || ((c.toNat : Int) == (9 : Int))) = false → (!(((c.toNat : Int) == (32 : Int)) || ((c.toNat : Int) == (9 : Int)))) = true) ∧ (
     ((!((((c.toNat : Int) == (32 : Int)) || ((c.toNat : Int) == (9 : Int))) || ((c.toNat : Int) == (10 : Int)))) = true → (!((((c.toNat : Int) == (32 : Int)) || ((c.toNat : Int) == (9 : Int))) || ((c.toNat : Int) == (10 : Int)))) = true) ∧ (
     (((((c.toNat : Int) == (32 : Int)) || ((c.toNat : Int) == (9 : Int))) || ((c.toNat : Int) == (10 : Int))) = false → (!((((c.toNat : Int) == (32 : Int)) || ((c.toNat : Int) == (9 : Int))) || ((c.toNat : Int) == (10 : Int)))) = true) ∧ (
     (
      (((((c.toNat : Int) == (32 : Int)) || ((c.toNat : Int) == (9 : Int))) || ((c.toNat : Int) == (10 : Int))) || ((c.toNat : Int) == (13 : Int))) = true → (
      -- umlautref17.go:119
      I (IntKind.i64.wrap (i + (1 : Int))) out out_len out_cap t2_L t2_L_len t2_L_cap t2_At t2_E w_3 ∧ μ (IntKind.i64.wrap (i + (1 : Int))) out out_len out_cap t2_L t2_L_len t2_L_cap t2_At t2_E w_3 < μ i out out_len out_cap t2_L t2_L_len t2_L_cap t2_At t2_E w_3))
     ∧ (
      (((((c.toNat : Int) == (32 : Int)) || ((c.toNat : Int) == (9 : Int))) || ((c.toNat : Int) == (10 : Int))) || ((c.toNat : Int) == (13 : Int))) = false → (
      -- umlautref17.go:122
      (((c.toNat : Int) == (45 : Int)) = true → ((c.toNat : Int) == (45 : Int)) = true) ∧ (
      (((c.toNat : Int) == (45 : Int)) = true → ((c.toNat : Int) == (45 : Int)) = true) ∧ (
      (((c.toNat : Int) == (45 : Int)) = true → ((c.toNat : Int) == (45 : Int)) = true) ∧ (
      (((c.toNat : Int) == (45 : Int)) = true → ((c.toNat : Int) == (45 : Int)) = true) ∧ (
      (((c.toNat : Int) == (45 : Int)) = true → ((c.toNat : Int) == (45 : Int)) = true) ∧ (
      ((((c.toNat : Int) == (45 : Int)) && (decide ((IntKind.i64.wrap (i + (1 : Int))) < (s.size : Int)))) = true → (((c.toNat : Int) == (45 : Int)) && (decide ((IntKind.i64.wrap (i + (1 : Int))) < (s.size : Int)))) = true) ∧ (
      ((((c.toNat : Int) == (45 : Int)) && (decide ((IntKind.i64.wrap (i + (1 : Int))) < (s.size : Int)))) = true → (((c.toNat : Int) == (45 : Int)) && (decide ((IntKind.i64.wrap (i + (1 : Int))) < (s.size : Int)))) = true) ∧ (
      ((((c.toNat : Int) == (45 : Int)) && (decide ((IntKind.i64.wrap (i + (1 : Int))) < (s.size : Int)))) = true → (((c.toNat : Int) == (45 : Int)) && (decide ((IntKind.i64.wrap (i + (1 : Int))) < (s.size : Int)))) = true) ∧ (
      ∃ c_1 : UInt8,
      ((((c.toNat : Int) == (45 : Int)) && (decide ((IntKind.i64.wrap (i + (1 : Int))) < (s.size : Int)))) = true → 0 ≤ (IntKind.i64.wrap (i + (1 : Int))) ∧ s[(IntKind.i64.wrap (i + (1 : Int))).toNat]? = some c_1) ∧ (
      ((((c.toNat : Int) == (45 : Int)) && (decide ((IntKind.i64.wrap (i + (1 : Int))) < (s.size : Int)))) = true → (((c.toNat : Int) == (45 : Int)) && (decide ((IntKind.i64.wrap (i + (1 : Int))) < (s.size : Int)))) = true) ∧ (
      ((((c.toNat : Int) == (45 : Int)) && (decide ((IntKind.i64.wrap (i + (1 : Int))) < (s.size : Int)))) = true → (((c.toNat : Int) == (45 : Int)) && (decide ((IntKind.i64.wrap (i + (1 : Int))) < (s.size : Int)))) = true) ∧ (
      (
       ((((c.toNat : Int) == (45 : Int)) && (decide ((IntKind.i64.wrap (i + (1 : Int))) < (s.size : Int)))) && ((c_1.toNat : Int) == (45 : Int))) = true → (
       -- LOOP 41: i
       ∃ (I_1 : Int → World → Prop) (μ_1 : Int → World → Nat),
       (
        I_1 i w_3)
       ∧ (
        ∀ (i_1 : Int),
        ∀ w_4 : World,
        I_1 i_1 w_4 → (
        -- umlautref17.go:123
        ((decide (i_1 < (s.size : Int))) = true → (decide (i_1 < (s.size : Int))) = true) ∧ (
        ((decide (i_1 < (s.size : Int))) = true → (decide (i_1 < (s.size : Int))) = true) ∧ (
        ∃ c_2 : UInt8,
        ((decide (i_1 < (s.size : Int))) = true → 0 ≤ i_1 ∧ s[i_1.toNat]? = some c_2) ∧ (
        ((decide (i_1 < (s.size : Int))) = true → (decide (i_1 < (s.size : Int))) = true) ∧ (
        ((decide (i_1 < (s.size : Int))) = true → (decide (i_1 < (s.size : Int))) = true) ∧ (
        (
         ((decide (i_1 < (s.size : Int))) && ((c_2.toNat : Int) != (10 : Int))) = true → (
         -- umlautref17.go:124
         I_1 (IntKind.i64.wrap (i_1 + (1 : Int))) w_4 ∧ μ_1 (IntKind.i64.wrap (i_1 + (1 : Int))) w_4 < μ_1 i_1 w_4))
        ∧ (
         ((decide (i_1 < (s.size : Int))) && ((c_2.toNat : Int) != (10 : Int))) = false → (
         I i_1 out out_len out_cap t2_L t2_L_len t2_L_cap t2_At t2_E w_4 ∧ μ i_1 out out_len out_cap t2_L t2_L_len t2_L_cap t2_At t2_E w_4 < μ i out out_len out_cap t2_L t2_L_len t2_L_cap t2_At t2_E w_3)))))))))))
      ∧ (
       ((((c.toNat : Int) == (45 : Int)) && (decide ((IntKind.i64.wrap (i + (1 : Int))) < (s.size : Int)))) && ((c_1.toNat : Int) == (45 : Int))) = false → (
       -- umlautref17.go:128
       -- CUT 55: k, out, t2_L, t2_At, t2_E
       ∃ J : Int → Option Addr → Nat → Nat → Option Addr → Nat → Nat → Int → Int → World → Prop,
       (
        -- umlautref17.go:130
        Calls Try.prog 44 #[.int .u8 (c.toNat : Int)] w_3 fun (e : Ending) (w_5 : World) => (
        ∃ r_digit : Bool,
        e = .returned (.bool r_digit) ∧ (
        (b2 < w_3.heap.size → w_5.heap[b2]? = w_3.heap[b2]?) ∧ (
        (
         r_digit = true → (
         -- LOOP 61: k
         ∃ (I_2 : Int → World → Prop) (μ_2 : Int → World → Nat),
         (
          I_2 i w_5)
         ∧ (
          ∀ (k_1 : Int),
          ∀ w_6 : World,
          I_2 k_1 w_6 → (
          -- umlautref17.go:131
          ((decide (k_1 < (s.size : Int))) = true → (decide (k_1 < (s.size : Int))) = true) ∧ (
          ((decide (k_1 < (s.size : Int))) = true → (decide (k_1 < (s.size : Int))) = true) ∧ (
          ∃ c_3 : UInt8,
          ((decide (k_1 < (s.size : Int))) = true → 0 ≤ k_1 ∧ s[k_1.toNat]? = some c_3) ∧ (
          (
           (decide (k_1 < (s.size : Int))) = true → (
           (decide (k_1 < (s.size : Int))) = true ∧ (
           Calls Try.prog 44 #[.int .u8 (c_3.toNat : Int)] w_6 fun (e : Ending) (w_7 : World) => (
           ∃ r_digit_1 : Bool,
           e = .returned (.bool r_digit_1) ∧ (
           (b2 < w_6.heap.size → w_7.heap[b2]? = w_6.heap[b2]?) ∧ (
           (
            r_digit_1 = true → (
            -- umlautref17.go:132
            I_2 (IntKind.i64.wrap (k_1 + (1 : Int))) w_7 ∧ μ_2 (IntKind.i64.wrap (k_1 + (1 : Int))) w_7 < μ_2 k_1 w_6))
           ∧ (
            r_digit_1 = false → (
            -- umlautref17.go:134
            (0 ≤ i ∧ i ≤ k_1 ∧ k_1 ≤ (s.size : Int)) ∧ (
            Calls Try.prog 45 #[.string (s.extract i.toNat k_1.toNat)] w_7 fun (e : Ending) (w_8 : World) => (
            ∃ r_Parsea : Int,
            ∃ r_Parseb : Int,
            e = .returned (.tuple #[.int .i64 r_Parsea, .int .i64 r_Parseb]) ∧ (
            (b2 < w_7.heap.size → w_8.heap[b2]? = w_7.heap[b2]?) ∧ (
            -- umlautref17.go:135
            (
             (r_Parseb != (0 : Int)) = true → (
             -- umlautref17.go:136
             ∀ w_9 : World,
             Vc.Fr (fun k => k = b2) w_8 w_9 → (
             b2 < w_9.heap.size → (
             R (.agg #[.slice none 0 0, .int .i64 i, .int .i64 (10 : Int)]) w_9))))
            ∧ (
             (r_Parseb != (0 : Int)) = false → (
             ((decide (k_1 < (s.size : Int))) = true → (decide (k_1 < (s.size : Int))) = true) ∧ (
             ((decide (k_1 < (s.size : Int))) = true → (decide (k_1 < (s.size : Int))) = true) ∧ (
             ∃ c_4 : UInt8,
             ((decide (k_1 < (s.size : Int))) = true → 0 ≤ k_1 ∧ s[k_1.toNat]? = some c_4) ∧ (
             (
              (decide (k_1 < (s.size : Int))) = true → (
              (decide (k_1 < (s.size : Int))) = true ∧ (
              Calls Try.prog 46 #[.int .u8 (c_4.toNat : Int)] w_8 fun (e : Ending) (w_10 : World) => (
              ∃ r_letter : Bool,
              e = .returned (.bool r_letter) ∧ (
              (b2 < w_8.heap.size → w_10.heap[b2]? = w_8.heap[b2]?) ∧ (
              (
               r_letter = true → (
               -- umlautref17.go:136
               ∀ w_11 : World,
               Vc.Fr (fun k => k = b2) w_10 w_11 → (
               b2 < w_11.heap.size → (
               R (.agg #[.slice none 0 0, .int .i64 i, .int .i64 (10 : Int)]) w_11))))
              ∧ (
               r_letter = false → (
               -- umlautref17.go:138
               ∀ w_12 : World,
               w_12 = w_10.alloc (.cells #[.int .i64 (3 : Int), .string (⟨#[]⟩ : ByteArray), .int .i64 r_Parsea, .int .i64 i] 86) → (
               ∃ (t132 : Option Addr) (t132_len t132_cap : Nat),
               ∃ w_13 : World,
               (Builtin.append_ #[67, 67] 67 #[.slice out out_len out_cap, .slice (some (⟨w_10.heap.size, 0, none⟩ : Addr)) 1 1]).run Try.prog w_12 = .ok (.slice t132 t132_len t132_cap) w_13 ∧ (
               (b2 < w_12.heap.size → w_13.heap[b2]? = w_12.heap[b2]?) ∧ (
               J k_1 t132 t132_len t132_cap t2_L t2_L_len t2_L_cap t2_At t2_E w_13)))))))))))
             ∧ (
              (decide (k_1 < (s.size : Int))) = false → (
              -- umlautref17.go:138
              ∀ w_14 : World,
              w_14 = w_8.alloc (.cells #[.int .i64 (3 : Int), .string (⟨#[]⟩ : ByteArray), .int .i64 r_Parsea, .int .i64 i] 86) → (
              ∃ (t132_1 : Option Addr) (t132_len_1 t132_cap_1 : Nat),
              ∃ w_15 : World,
              (Builtin.append_ #[67, 67] 67 #[.slice out out_len out_cap, .slice (some (⟨w_8.heap.size, 0, none⟩ : Addr)) 1 1]).run Try.prog w_14 = .ok (.slice t132_1 t132_len_1 t132_cap_1) w_15 ∧ (
              (b2 < w_14.heap.size → w_15.heap[b2]? = w_14.heap[b2]?) ∧ (
              J k_1 t132_1 t132_len_1 t132_cap_1 t2_L t2_L_len t2_L_cap t2_At t2_E w_15))))))))))))))))))))))
          ∧ (
           (decide (k_1 < (s.size : Int))) = false → (
           -- umlautref17.go:134
           (0 ≤ i ∧ i ≤ k_1 ∧ k_1 ≤ (s.size : Int)) ∧ (
           Calls Try.prog 45 #[.string (s.extract i.toNat k_1.toNat)] w_6 fun (e : Ending) (w_16 : World) => (
           ∃ r_Parsea_1 : Int,
           ∃ r_Parseb_1 : Int,
           e = .returned (.tuple #[.int .i64 r_Parsea_1, .int .i64 r_Parseb_1]) ∧ (
           (b2 < w_6.heap.size → w_16.heap[b2]? = w_6.heap[b2]?) ∧ (
           -- umlautref17.go:135
           (
            (r_Parseb_1 != (0 : Int)) = true → (
            -- umlautref17.go:136
            ∀ w_17 : World,
            Vc.Fr (fun k => k = b2) w_16 w_17 → (
            b2 < w_17.heap.size → (
            R (.agg #[.slice none 0 0, .int .i64 i, .int .i64 (10 : Int)]) w_17))))
           ∧ (
            (r_Parseb_1 != (0 : Int)) = false → (
            ((decide (k_1 < (s.size : Int))) = true → (decide (k_1 < (s.size : Int))) = true) ∧ (
            ((decide (k_1 < (s.size : Int))) = true → (decide (k_1 < (s.size : Int))) = true) ∧ (
            ∃ c_5 : UInt8,
            ((decide (k_1 < (s.size : Int))) = true → 0 ≤ k_1 ∧ s[k_1.toNat]? = some c_5) ∧ (
            (
             (decide (k_1 < (s.size : Int))) = true → (
             (decide (k_1 < (s.size : Int))) = true ∧ (
             Calls Try.prog 46 #[.int .u8 (c_5.toNat : Int)] w_16 fun (e : Ending) (w_18 : World) => (
             ∃ r_letter_1 : Bool,
             e = .returned (.bool r_letter_1) ∧ (
             (b2 < w_16.heap.size → w_18.heap[b2]? = w_16.heap[b2]?) ∧ (
             (
              r_letter_1 = true → (
              -- umlautref17.go:136
              ∀ w_19 : World,
              Vc.Fr (fun k => k = b2) w_18 w_19 → (
              b2 < w_19.heap.size → (
              R (.agg #[.slice none 0 0, .int .i64 i, .int .i64 (10 : Int)]) w_19))))
             ∧ (
              r_letter_1 = false → (
              -- umlautref17.go:138
              ∀ w_20 : World,
              w_20 = w_18.alloc (.cells #[.int .i64 (3 : Int), .string (⟨#[]⟩ : ByteArray), .int .i64 r_Parsea_1, .int .i64 i] 86) → (
              ∃ (t132_2 : Option Addr) (t132_len_2 t132_cap_2 : Nat),
              ∃ w_21 : World,
              (Builtin.append_ #[67, 67] 67 #[.slice out out_len out_cap, .slice (some (⟨w_18.heap.size, 0, none⟩ : Addr)) 1 1]).run Try.prog w_20 = .ok (.slice t132_2 t132_len_2 t132_cap_2) w_21 ∧ (
              (b2 < w_20.heap.size → w_21.heap[b2]? = w_20.heap[b2]?) ∧ (
              J k_1 t132_2 t132_len_2 t132_cap_2 t2_L t2_L_len t2_L_cap t2_At t2_E w_21)))))))))))
            ∧ (
             (decide (k_1 < (s.size : Int))) = false → (
             -- umlautref17.go:138
             ∀ w_22 : World,
             w_22 = w_16.alloc (.cells #[.int .i64 (3 : Int), .string (⟨#[]⟩ : ByteArray), .int .i64 r_Parsea_1, .int .i64 i] 86) → (
             ∃ (t132_3 : Option Addr) (t132_len_3 t132_cap_3 : Nat),
             ∃ w_23 : World,
             (Builtin.append_ #[67, 67] 67 #[.slice out out_len out_cap, .slice (some (⟨w_16.heap.size, 0, none⟩ : Addr)) 1 1]).run Try.prog w_22 = .ok (.slice t132_3 t132_len_3 t132_cap_3) w_23 ∧ (
             (b2 < w_22.heap.size → w_23.heap[b2]? = w_22.heap[b2]?) ∧ (
             J k_1 t132_3 t132_len_3 t132_cap_3 t2_L t2_L_len t2_L_cap t2_At t2_E w_23)))))))))))))))))))))))
        ∧ (
         r_digit = false → (
         -- umlautref17.go:139
         Calls Try.prog 46 #[.int .u8 (c.toNat : Int)] w_5 fun (e : Ending) (w_24 : World) => (
         ∃ r_letter_2 : Bool,
         e = .returned (.bool r_letter_2) ∧ (
         (b2 < w_5.heap.size → w_24.heap[b2]? = w_5.heap[b2]?) ∧ (
         (
          r_letter_2 = true → (
          -- LOOP 86: k
          ∃ (I_3 : Int → World → Prop) (μ_3 : Int → World → Nat),
          (
           I_3 i w_24)
          ∧ (
           ∀ (k_2 : Int),
           ∀ w_25 : World,
           I_3 k_2 w_25 → (
           -- umlautref17.go:140
           ((decide (k_2 < (s.size : Int))) = true → (decide (k_2 < (s.size : Int))) = true) ∧ (
           ((decide (k_2 < (s.size : Int))) = true → (decide (k_2 < (s.size : Int))) = true) ∧ (
           ∃ c_6 : UInt8,
           ((decide (k_2 < (s.size : Int))) = true → 0 ≤ k_2 ∧ s[k_2.toNat]? = some c_6) ∧ (
           (
            (decide (k_2 < (s.size : Int))) = true → (
            (decide (k_2 < (s.size : Int))) = true ∧ (
            Calls Try.prog 46 #[.int .u8 (c_6.toNat : Int)] w_25 fun (e : Ending) (w_26 : World) => (
            ∃ r_letter_3 : Bool,
            e = .returned (.bool r_letter_3) ∧ (
            (b2 < w_25.heap.size → w_26.heap[b2]? = w_25.heap[b2]?) ∧ (
            (
             r_letter_3 = true → (
             -- umlautref17.go:141
             I_3 (IntKind.i64.wrap (k_2 + (1 : Int))) w_26 ∧ μ_3 (IntKind.i64.wrap (k_2 + (1 : Int))) w_26 < μ_3 k_2 w_25))
            ∧ (
             r_letter_3 = false → (
             -- umlautref17.go:143
             (
              (decide ((IntKind.i64.wrap (k_2 - i)) > (16 : Int))) = true → (
              -- umlautref17.go:144
              ∀ w_27 : World,
              Vc.Fr (fun k => k = b2) w_26 w_27 → (
              b2 < w_27.heap.size → (
              R (.agg #[.slice none 0 0, .int .i64 i, .int .i64 (10 : Int)]) w_27))))
             ∧ (
              (decide ((IntKind.i64.wrap (k_2 - i)) > (16 : Int))) = false → (
              -- umlautref17.go:146
              (0 ≤ i ∧ i ≤ k_2 ∧ k_2 ≤ (s.size : Int)) ∧ (
              Calls Try.prog 47 #[.string (s.extract i.toNat k_2.toNat)] w_26 fun (e : Ending) (w_28 : World) => (
              ∃ r_upper : ByteArray,
              e = .returned (.string r_upper) ∧ (
              (b2 < w_26.heap.size → w_28.heap[b2]? = w_26.heap[b2]?) ∧ (
              -- umlautref17.go:146
              Calls Try.prog 48 #[.string r_upper] w_28 fun (e : Ending) (w_29 : World) => (
              ∃ r_isWord : Bool,
              e = .returned (.bool r_isWord) ∧ (
              (b2 < w_28.heap.size → w_29.heap[b2]? = w_28.heap[b2]?) ∧ (
              (
               r_isWord = true → (
               -- umlautref17.go:147
               ∀ w_30 : World,
               w_30 = w_29.alloc (.cells #[.int .i64 (2 : Int), .string r_upper, .int .i64 (0 : Int), .int .i64 i] 86) → (
               ∃ (t166 : Option Addr) (t166_len t166_cap : Nat),
               ∃ w_31 : World,
               (Builtin.append_ #[67, 67] 67 #[.slice out out_len out_cap, .slice (some (⟨w_29.heap.size, 0, none⟩ : Addr)) 1 1]).run Try.prog w_30 = .ok (.slice t166 t166_len t166_cap) w_31 ∧ (
               (b2 < w_30.heap.size → w_31.heap[b2]? = w_30.heap[b2]?) ∧ (
               J k_2 t166 t166_len t166_cap t2_L t2_L_len t2_L_cap t2_At t2_E w_31)))))
              ∧ (
               r_isWord = false → (
               -- umlautref17.go:149
               (0 ≤ i ∧ i ≤ k_2 ∧ k_2 ≤ (s.size : Int)) ∧ (
               Calls Try.prog 49 #[.string (s.extract i.toNat k_2.toNat)] w_29 fun (e : Ending) (w_32 : World) => (
               ∃ r_lower : ByteArray,
               e = .returned (.string r_lower) ∧ (
               (b2 < w_29.heap.size → w_32.heap[b2]? = w_29.heap[b2]?) ∧ (
               ∀ w_33 : World,
               w_33 = w_32.alloc (.cells #[.int .i64 (1 : Int), .string r_lower, .int .i64 (0 : Int), .int .i64 i] 86) → (
               ∃ (t176 : Option Addr) (t176_len t176_cap : Nat),
               ∃ w_34 : World,
               (Builtin.append_ #[67, 67] 67 #[.slice out out_len out_cap, .slice (some (⟨w_32.heap.size, 0, none⟩ : Addr)) 1 1]).run Try.prog w_33 = .ok (.slice t176 t176_len t176_cap) w_34 ∧ (
               (b2 < w_33.heap.size → w_34.heap[b2]? = w_33.heap[b2]?) ∧ (
               J k_2 t176 t176_len t176_cap t2_L t2_L_len t2_L_cap t2_At t2_E w_34))))))))))))))))))))))))))
           ∧ (
            (decide (k_2 < (s.size : Int))) = false → (
            -- umlautref17.go:143
            (
             (decide ((IntKind.i64.wrap (k_2 - i)) > (16 : Int))) = true → (
             -- umlautref17.go:144
             ∀ w_35 : World,
             Vc.Fr (fun k => k = b2) w_25 w_35 → (
             b2 < w_35.heap.size → (
             R (.agg #[.slice none 0 0, .int .i64 i, .int .i64 (10 : Int)]) w_35))))
            ∧ (
             (decide ((IntKind.i64.wrap (k_2 - i)) > (16 : Int))) = false → (
             -- umlautref17.go:146
             (0 ≤ i ∧ i ≤ k_2 ∧ k_2 ≤ (s.size : Int)) ∧ (
             Calls Try.prog 47 #[.string (s.extract i.toNat k_2.toNat)] w_25 fun (e : Ending) (w_36 : World) => (
             ∃ r_upper_1 : ByteArray,
             e = .returned (.string r_upper_1) ∧ (
             (b2 < w_25.heap.size → w_36.heap[b2]? = w_25.heap[b2]?) ∧ (
             -- umlautref17.go:146
             Calls Try.prog 48 #[.string r_upper_1] w_36 fun (e : Ending) (w_37 : World) => (
             ∃ r_isWord_1 : Bool,
             e = .returned (.bool r_isWord_1) ∧ (
             (b2 < w_36.heap.size → w_37.heap[b2]? = w_36.heap[b2]?) ∧ (
             (
              r_isWord_1 = true → (
              -- umlautref17.go:147
              ∀ w_38 : World,
              w_38 = w_37.alloc (.cells #[.int .i64 (2 : Int), .string r_upper_1, .int .i64 (0 : Int), .int .i64 i] 86) → (
              ∃ (t166_1 : Option Addr) (t166_len_1 t166_cap_1 : Nat),
              ∃ w_39 : World,
              (Builtin.append_ #[67, 67] 67 #[.slice out out_len out_cap, .slice (some (⟨w_37.heap.size, 0, none⟩ : Addr)) 1 1]).run Try.prog w_38 = .ok (.slice t166_1 t166_len_1 t166_cap_1) w_39 ∧ (
              (b2 < w_38.heap.size → w_39.heap[b2]? = w_38.heap[b2]?) ∧ (
              J k_2 t166_1 t166_len_1 t166_cap_1 t2_L t2_L_len t2_L_cap t2_At t2_E w_39)))))
             ∧ (
              r_isWord_1 = false → (
              -- umlautref17.go:149
              (0 ≤ i ∧ i ≤ k_2 ∧ k_2 ≤ (s.size : Int)) ∧ (
              Calls Try.prog 49 #[.string (s.extract i.toNat k_2.toNat)] w_37 fun (e : Ending) (w_40 : World) => (
              ∃ r_lower_1 : ByteArray,
              e = .returned (.string r_lower_1) ∧ (
              (b2 < w_37.heap.size → w_40.heap[b2]? = w_37.heap[b2]?) ∧ (
              ∀ w_41 : World,
              w_41 = w_40.alloc (.cells #[.int .i64 (1 : Int), .string r_lower_1, .int .i64 (0 : Int), .int .i64 i] 86) → (
              ∃ (t176_1 : Option Addr) (t176_len_1 t176_cap_1 : Nat),
              ∃ w_42 : World,
              (Builtin.append_ #[67, 67] 67 #[.slice out out_len out_cap, .slice (some (⟨w_40.heap.size, 0, none⟩ : Addr)) 1 1]).run Try.prog w_41 = .ok (.slice t176_1 t176_len_1 t176_cap_1) w_42 ∧ (
              (b2 < w_41.heap.size → w_42.heap[b2]? = w_41.heap[b2]?) ∧ (
              J k_2 t176_1 t176_len_1 t176_cap_1 t2_L t2_L_len t2_L_cap t2_At t2_E w_42)))))))))))))))))))))))))))
         ∧ (
          r_letter_2 = false → (
          -- umlautref17.go:151
          (
           ((c.toNat : Int) == (39 : Int)) = true → (
           -- umlautref17.go:152
           Calls Try.prog 50 #[.string s, .int .i64 i] w_24 fun (e : Ending) (w_43 : World) => (
           ∃ r_texta : ByteArray,
           ∃ r_textb : Int,
           ∃ r_textc : Bool,
           e = .returned (.tuple #[.string r_texta, .int .i64 r_textb, .bool r_textc]) ∧ (
           (b2 < w_24.heap.size → w_43.heap[b2]? = w_24.heap[b2]?) ∧ (
           -- umlautref17.go:153
           (
            (!r_textc) = true → (
            -- umlautref17.go:154
            ∀ w_44 : World,
            Vc.Fr (fun k => k = b2) w_43 w_44 → (
            b2 < w_44.heap.size → (
            R (.agg #[.slice none 0 0, .int .i64 i, .int .i64 (10 : Int)]) w_44))))
           ∧ (
            (!r_textc) = false → (
            -- umlautref17.go:156
            ∀ w_45 : World,
            w_45 = w_43.alloc (.cells #[.int .i64 (4 : Int), .string r_texta, .int .i64 (0 : Int), .int .i64 i] 86) → (
            ∃ (t196 : Option Addr) (t196_len t196_cap : Nat),
            ∃ w_46 : World,
            (Builtin.append_ #[67, 67] 67 #[.slice out out_len out_cap, .slice (some (⟨w_43.heap.size, 0, none⟩ : Addr)) 1 1]).run Try.prog w_45 = .ok (.slice t196 t196_len t196_cap) w_46 ∧ (
            (b2 < w_45.heap.size → w_46.heap[b2]? = w_45.heap[b2]?) ∧ (
            -- umlautref17.go:157
            J r_textb t196 t196_len t196_cap t2_L t2_L_len t2_L_cap t2_At t2_E w_46))))))))))
          ∧ (
           ((c.toNat : Int) == (39 : Int)) = false → (
           -- umlautref17.go:159
           (0 ≤ i ∧ i ≤ (s.size : Int)) ∧ (
           Calls Try.prog 51 #[.string (s.extract i.toNat s.size)] w_24 fun (e : Ending) (w_47 : World) => (
           ∃ r_op : ByteArray,
           e = .returned (.string r_op) ∧ (
           (b2 < w_24.heap.size → w_47.heap[b2]? = w_24.heap[b2]?) ∧ (
           -- umlautref17.go:160
           (
            (r_op.toList == (⟨#[]⟩ : ByteArray).toList) = true → (
            -- umlautref17.go:161
            ∀ w_48 : World,
            Vc.Fr (fun k => k = b2) w_47 w_48 → (
            b2 < w_48.heap.size → (
            R (.agg #[.slice none 0 0, .int .i64 i, .int .i64 (10 : Int)]) w_48))))
           ∧ (
            (r_op.toList == (⟨#[]⟩ : ByteArray).toList) = false → (
            -- umlautref17.go:163
            ∀ w_49 : World,
            w_49 = w_47.alloc (.cells #[.int .i64 (5 : Int), .string r_op, .int .i64 (0 : Int), .int .i64 i] 86) → (
            ∃ (t83 : Option Addr) (t83_len t83_cap : Nat),
            ∃ w_50 : World,
            (Builtin.append_ #[67, 67] 67 #[.slice out out_len out_cap, .slice (some (⟨w_47.heap.size, 0, none⟩ : Addr)) 1 1]).run Try.prog w_49 = .ok (.slice t83 t83_len t83_cap) w_50 ∧ (
            (b2 < w_49.heap.size → w_50.heap[b2]? = w_49.heap[b2]?) ∧ (
            -- umlautref17.go:164
            J (IntKind.i64.wrap (i + (r_op.size : Int))) t83 t83_len t83_cap t2_L t2_L_len t2_L_cap t2_At t2_E w_50))))))))))))))))))))))
       ∧ (
        ∀ (k_3 : Int) (out_1 : Option Addr) (out_len_1 out_cap_1 : Nat) (t2_L_1 : Option Addr) (t2_L_len_1 t2_L_cap_1 : Nat) (t2_At_1 : Int) (t2_E_1 : Int),
        ∀ w_51 : World,
        J k_3 out_1 out_len_1 out_cap_1 t2_L_1 t2_L_len_1 t2_L_cap_1 t2_At_1 t2_E_1 w_51 → (
        -- umlautref17.go:166
        I k_3 out_1 out_len_1 out_cap_1 t2_L_1 t2_L_len_1 t2_L_cap_1 t2_At_1 t2_E_1 w_51 ∧ μ k_3 out_1 out_len_1 out_cap_1 t2_L_1 t2_L_len_1 t2_L_cap_1 t2_At_1 t2_E_1 w_51 < μ i out out_len out_cap t2_L t2_L_len t2_L_cap t2_At t2_E w_3))))))))))))))))))))))))))
    ∧ (
     (decide (i < (s.size : Int))) = false → (
     -- umlautref17.go:168
     ∀ w_52 : World,
     Vc.Fr (fun k => k = b2) w_3 w_52 → (
     b2 < w_52.heap.size → (
     R (.agg #[.slice out out_len out_cap, .int .i64 (0 : Int), .int .i64 (0 : Int)]) w_52)))))))))
def Sh.ref17_Tokens_h : Vc.H := (.seq (.reg (.o 0 1 (.done 0))) (.seq (.seq (.reg (.p 0 0 (.p 1 0 (.p 2 0 (.done 0))))) (.cond false (.seq (.reg (.p 0 0 (.o 1 0 (.done 0)))) (.nil 0)) (.nil 0))) (.seq (.reg (.p 0 0 (.done 0))) (.seq (.seq (.reg (.p 0 0 (.done 0))) (.block (.loop [((0, 4), .int .i64), ((0, 3), .slice), ((3, 0), .slice), ((3, 1), .int .i64), ((3, 2), .int .i64)] [(0, 18), (0, 19), (0, 20), (0, 21), (0, 22), (0, 23), (0, 24), (0, 5), (0, 25), (0, 26), (0, 27), (0, 28), (0, 29), (0, 30), (0, 31), (0, 32), (0, 33), (0, 34), (0, 35), (0, 36), (0, 37), (0, 38), (0, 39), (0, 40), (0, 41), (0, 42), (0, 43), (0, 44), (0, 45), (0, 46), (0, 47), (0, 48), (0, 49), (0, 50), (0, 51), (0, 52), (0, 53), (0, 54), (0, 55), (0, 56), (0, 57), (0, 58), (0, 59), (0, 60), (0, 61), (0, 62), (0, 63), (0, 64), (0, 65), (0, 66), (0, 67), (0, 68), (0, 69), (0, 6), (0, 89), (0, 90), (0, 88), (0, 91), (0, 92), (0, 93), (0, 94), (0, 95), (0, 96), (0, 97), (0, 98), (0, 99), (0, 100), (0, 101), (0, 102), (0, 104), (0, 105), (0, 106), (0, 107), (0, 108), (0, 103), (0, 109), (0, 110), (0, 7), (0, 8), (0, 111), (0, 112), (0, 113), (0, 114), (0, 115), (0, 116), (0, 117), (0, 118), (0, 119), (0, 120), (0, 121), (0, 122), (0, 123), (0, 124), (0, 125), (0, 126), (0, 127), (0, 128), (0, 129), (0, 130), (0, 131), (0, 132), (0, 134), (0, 135), (0, 133), (0, 136), (0, 137), (0, 138), (0, 139), (0, 140), (0, 141), (0, 142), (0, 143), (0, 144), (0, 145), (0, 146), (0, 147), (0, 148), (0, 149), (0, 150), (0, 151), (0, 152), (0, 153), (0, 154), (0, 155), (0, 156), (0, 157), (0, 158), (0, 9), (0, 159), (0, 160), (0, 161), (0, 162), (0, 163), (0, 164), (0, 165), (0, 166), (0, 167), (0, 168), (0, 169), (0, 170), (0, 171), (0, 172), (0, 173), (0, 174), (0, 175), (0, 176), (0, 178), (0, 179), (0, 177), (0, 181), (0, 182), (0, 183), (0, 180), (0, 184), (0, 185), (0, 186), (0, 10), (0, 11), (0, 12), (0, 187), (0, 188), (0, 189), (0, 190), (0, 191), (0, 192), (0, 193), (0, 194), (0, 195), (0, 196), (0, 197), (0, 70), (0, 71), (0, 72), (0, 73), (0, 13), (0, 74), (0, 75), (0, 76), (0, 77), (0, 78), (0, 79), (0, 80), (0, 81), (0, 82), (0, 83), (0, 84), (0, 85), (0, 86), (0, 87), (0, 198)] (.seq (.seq (.reg (.p 0 0 (.p 1 0 (.p 2 0 (.p 3 0 (.done 0)))))) (.cond false (.nil 0) (.nil 0))) (.block (.seq (.reg (.p 0 0 (.p 1 0 (.p 2 0 (.p 3 0 (.done 0)))))) (.seq (.seq (.reg (.p 0 0 (.p 1 0 (.p 2 0 (.p 3 0 (.p 4 0 (.p 5 0 (.p 6 0 (.p 7 0 (.p 8 0 (.p 9 0 (.p 10 0 (.p 11 0 (.p 12 0 (.p 13 0 (.done 0)))))))))))))))) (.cond false (.seq (.reg (.p 0 0 (.p 1 0 (.p 2 0 (.done 0))))) (.nil 0)) (.nil 0))) (.seq (.seq (.reg (.p 0 0 (.p 1 0 (.p 2 0 (.p 3 0 (.p 4 0 (.p 5 0 (.p 6 0 (.p 7 0 (.p 8 0 (.p 9 0 (.p 10 0 (.p 11 0 (.p 12 0 (.p 13 0 (.p 14 0 (.p 15 0 (.done 0)))))))))))))))))) (.cond false (.seq (.block (.loop [((0, 4), .int .i64)] [(0, 57), (0, 58), (0, 59), (0, 60), (0, 61), (0, 62), (0, 63), (0, 64), (0, 65), (0, 66), (0, 67), (0, 68)] (.seq (.seq (.reg (.p 0 0 (.p 1 0 (.p 2 0 (.p 3 0 (.p 4 0 (.p 5 0 (.p 6 0 (.p 7 0 (.p 8 0 (.p 9 0 (.done 0)))))))))))) (.cond false (.nil 0) (.nil 0))) (.block (.reg (.p 0 0 (.p 1 0 (.p 2 0 (.done 0))))))))) (.nil 0)) (.nil 0))) (.seq (.reg (.p 0 0 (.p 1 0 (.done 0)))) (.seq (.cut [((0, 6), .int .i64), ((0, 3), .slice), ((3, 0), .slice), ((3, 1), .int .i64), ((3, 2), .int .i64)] [(0, 89), (0, 90), (0, 88), (0, 91), (0, 92), (0, 93), (0, 94), (0, 95), (0, 100), (0, 101), (0, 102), (0, 104), (0, 105), (0, 106), (0, 107), (0, 108), (0, 103), (0, 109), (0, 110), (0, 7), (0, 8), (0, 111), (0, 112), (0, 113), (0, 124), (0, 125), (0, 126), (0, 127), (0, 128), (0, 129), (0, 130), (0, 131), (0, 132), (0, 134), (0, 135), (0, 133), (0, 136), (0, 137), (0, 138), (0, 139), (0, 140), (0, 145), (0, 146), (0, 147), (0, 148), (0, 149), (0, 150), (0, 151), (0, 152), (0, 153), (0, 154), (0, 155), (0, 156), (0, 157), (0, 158), (0, 9), (0, 159), (0, 160), (0, 161), (0, 162), (0, 163), (0, 164), (0, 165), (0, 166), (0, 167), (0, 168), (0, 169), (0, 170), (0, 171), (0, 172), (0, 173), (0, 174), (0, 175), (0, 176), (0, 178), (0, 179), (0, 177), (0, 181), (0, 182), (0, 183), (0, 180), (0, 184), (0, 185), (0, 186), (0, 10), (0, 11), (0, 12), (0, 187), (0, 188), (0, 189), (0, 190), (0, 191), (0, 192), (0, 193), (0, 194), (0, 195), (0, 196), (0, 197), (0, 70), (0, 71), (0, 72), (0, 73), (0, 13), (0, 74), (0, 75), (0, 76), (0, 77), (0, 78), (0, 79), (0, 80), (0, 81), (0, 82), (0, 83), (0, 84), (0, 85), (0, 86), (0, 87), (0, 96), (0, 97), (0, 98), (0, 99), (0, 114), (0, 115), (0, 116), (0, 117), (0, 118), (0, 119), (0, 120), (0, 121), (0, 122), (0, 123), (0, 141), (0, 142), (0, 143), (0, 144)] 0 (.block (.seq (.reg (.p 0 0 (.o 1 0 (.p 2 0 (.done 0))))) (.cond false (.seq (.block (.loop [((0, 6), .int .i64)] [(0, 91), (0, 92), (0, 93), (0, 94), (0, 95), (0, 96), (0, 97), (0, 98), (0, 99), (0, 100), (0, 101), (0, 102)] (.seq (.seq (.reg (.p 0 0 (.p 1 0 (.p 2 0 (.p 3 0 (.p 4 0 (.p 5 0 (.p 6 0 (.p 7 0 (.s 95 (.o 8 0 (.p 9 1 (.done 0))) (.sk 8 (.p 9 1 (.done 1))))))))))))) (.alt (.cond false (.nil 0) (.nil 0)) (.cond true (.nil 0) (.nil 0)))) (.block (.reg (.p 0 0 (.p 1 0 (.p 2 0 (.done 0))))))))) (.seq (.reg (.p 0 0 (.p 1 0 (.p 2 0 (.p 3 0 (.o 4 0 (.p 5 0 (.p 6 0 (.p 7 0 (.p 8 0 (.p 9 0 (.done 0)))))))))))) (.seq (.seq (.reg (.p 0 0 (.p 1 0 (.p 2 0 (.s 113 (.sk 3 (.sk 4 (.sk 5 (.sk 6 (.sk 7 (.sk 8 (.sk 9 (.sk 10 (.sk 11 (.sk 12 (.p 13 1 (.done 0)))))))))))) (.p 3 8 (.p 4 8 (.p 5 8 (.p 6 8 (.p 7 8 (.p 8 0 (.p 9 0 (.p 10 0 (.s 118 (.o 11 0 (.p 12 9 (.p 13 1 (.done 1)))) (.sk 11 (.p 12 9 (.p 13 1 (.done 2)))))))))))))))))) (.alt (.cond true (.seq (.reg (.p 0 0 (.p 1 0 (.o 2 0 (.done 0))))) (.nil 0)) (.nil 0)) (.alt (.cond false (.seq (.reg (.p 0 0 (.p 1 0 (.o 2 0 (.done 0))))) (.nil 0)) (.nil 0)) (.cond true (.nil 0) (.nil 0))))) (.reg (.p 0 0 (.p 1 0 (.p 2 0 (.p 3 0 (.o 4 0 (.o 5 9 (.p 6 0 (.done 0)))))))))))) (.seq (.reg (.p 0 0 (.o 1 0 (.p 2 0 (.done 0))))) (.cond false (.seq (.block (.loop [((0, 6), .int .i64)] [(0, 136), (0, 137), (0, 138), (0, 139), (0, 140), (0, 141), (0, 142), (0, 143), (0, 144), (0, 145), (0, 146), (0, 147)] (.seq (.seq (.reg (.p 0 0 (.p 1 0 (.p 2 0 (.p 3 0 (.p 4 0 (.p 5 0 (.p 6 0 (.p 7 0 (.s 140 (.o 8 0 (.p 9 1 (.done 0))) (.sk 8 (.p 9 1 (.done 1))))))))))))) (.alt (.cond false (.nil 0) (.nil 0)) (.cond true (.nil 0) (.nil 0)))) (.block (.reg (.p 0 0 (.p 1 0 (.p 2 0 (.done 0))))))))) (.seq (.seq (.reg (.p 0 0 (.p 1 0 (.p 2 0 (.p 3 0 (.done 0)))))) (.cond false (.seq (.reg (.p 0 0 (.p 1 0 (.o 2 0 (.done 0))))) (.nil 0)) (.nil 0))) (.seq (.reg (.p 0 0 (.p 1 0 (.p 2 0 (.p 3 0 (.o 4 0 (.p 5 0 (.done 0)))))))) (.seq (.reg (.p 0 0 (.o 1 0 (.done 0)))) (.cond false (.reg (.p 0 0 (.p 1 0 (.p 2 0 (.p 3 0 (.o 4 0 (.o 5 9 (.p 6 0 (.done 0))))))))) (.reg (.p 0 0 (.p 1 0 (.p 2 0 (.p 3 0 (.p 4 0 (.o 5 0 (.p 6 0 (.p 7 0 (.o 8 0 (.o 9 9 (.p 10 0 (.done 0)))))))))))))))))) (.seq (.reg (.p 0 0 (.p 1 0 (.p 2 0 (.done 0))))) (.cond false (.seq (.reg (.p 0 0 (.p 1 0 (.o 2 0 (.p 3 0 (.p 4 0 (.p 5 0 (.p 6 0 (.p 7 0 (.p 8 0 (.p 9 0 (.done 0)))))))))))) (.seq (.seq (.reg (.p 0 0 (.p 1 0 (.done 0)))) (.cond false (.seq (.reg (.p 0 0 (.p 1 0 (.o 2 0 (.done 0))))) (.nil 0)) (.nil 0))) (.seq (.reg (.p 0 0 (.p 1 0 (.p 2 0 (.p 3 0 (.o 4 0 (.o 5 9 (.p 6 0 (.done 0))))))))) (.reg (.p 0 0 (.p 1 0 (.done 0))))))) (.seq (.reg (.p 0 0 (.p 1 0 (.p 2 0 (.o 3 0 (.p 4 0 (.done 0))))))) (.seq (.seq (.reg (.p 0 0 (.p 1 0 (.done 0)))) (.cond false (.seq (.reg (.p 0 0 (.p 1 0 (.o 2 0 (.done 0))))) (.nil 0)) (.nil 0))) (.seq (.reg (.p 0 0 (.p 1 0 (.p 2 0 (.p 3 0 (.o 4 0 (.o 5 9 (.p 6 0 (.done 0))))))))) (.reg (.p 0 0 (.p 1 0 (.p 2 0 (.p 3 0 (.p 4 0 (.done 0)))))))))))))))))) (.reg (.p 0 0 (.p 1 0 (.done 0)))))))))))))) (.seq (.reg (.p 0 0 (.p 1 0 (.o 2 0 (.done 0))))) (.nil 0))))))
theorem Sh.ref17_Tokens_eq (s : ByteArray) (w : World) (R : Value → World → Prop) : Sh.ref17_Tokens s w R = Vc.vcFn Try.prog tab okF Try.f35 Sh.ref17_Tokens_h [.string s] w R := by kernel_rfl
theorem Sh.ref17_Tokens_calls (s : ByteArray) {w : World} {R : Value → World → Prop} (h : Sh.ref17_Tokens s w R) : Calls Try.prog 35 #[.string s] w fun e w' => ∃ v, e = .returned v ∧ R v w' :=
  Vc.fn_calls mixed tabOk okF_ok Try.func35 (by kernel_rfl) (by kernel_rfl) (by rw [← Sh.ref17_Tokens_eq s]; exact h)

def Sh.ref17_digit (c : Int) (w : World) (R : Value → World → Prop) : Prop :=
  -- umlautref17.go:69
  -- umlautref17.go:69
  ((decide (c ≥ (48 : Int))) = true → (decide (c ≥ (48 : Int))) = true) ∧ (
  ((decide (c ≥ (48 : Int))) = true → (decide (c ≥ (48 : Int))) = true) ∧ (
  R (.bool ((decide (c ≥ (48 : Int))) && (decide (c ≤ (57 : Int))))) w))
def Sh.ref17_digit_h : Vc.H := (.seq (.reg (.p 0 0 (.done 0))) (.seq (.reg (.p 0 0 (.p 1 0 (.p 2 0 (.p 3 0 (.p 4 0 (.p 5 0 (.p 6 0 (.done 0))))))))) (.nil 0)))
theorem Sh.ref17_digit_eq (c : Int) (w : World) (R : Value → World → Prop) : Sh.ref17_digit c w R = Vc.vcFn Try.prog tab okF Try.f44 Sh.ref17_digit_h [.int .u8 c] w R := by kernel_rfl
theorem Sh.ref17_digit_calls (c : Int) {w : World} {R : Value → World → Prop} (h : Sh.ref17_digit c w R) : Calls Try.prog 44 #[.int .u8 c] w fun e w' => ∃ v, e = .returned v ∧ R v w' :=
  Vc.fn_calls mixed tabOk okF_ok Try.func44 (by kernel_rfl) (by kernel_rfl) (by rw [← Sh.ref17_digit_eq c]; exact h)

def Sh.ref17_letter (c : Int) (w : World) (R : Value → World → Prop) : Prop :=
  -- umlautref17.go:64
  -- umlautref17.go:65
  ((decide (c ≥ (97 : Int))) = true → (decide (c ≥ (97 : Int))) = true) ∧ (
  ((decide (c ≥ (97 : Int))) = true → (decide (c ≥ (97 : Int))) = true) ∧ (
  ((!((decide (c ≥ (97 : Int))) && (decide (c ≤ (122 : Int))))) = true → (!((decide (c ≥ (97 : Int))) && (decide (c ≤ (122 : Int))))) = true) ∧ (
  ((!((decide (c ≥ (97 : Int))) && (decide (c ≤ (122 : Int))))) = true → (!((decide (c ≥ (97 : Int))) && (decide (c ≤ (122 : Int))))) = true) ∧ (
  (((!((decide (c ≥ (97 : Int))) && (decide (c ≤ (122 : Int))))) && (decide (c ≥ (65 : Int)))) = true → ((!((decide (c ≥ (97 : Int))) && (decide (c ≤ (122 : Int))))) && (decide (c ≥ (65 : Int)))) = true) ∧ (
  ((!((decide (c ≥ (97 : Int))) && (decide (c ≤ (122 : Int))))) = true → (!((decide (c ≥ (97 : Int))) && (decide (c ≤ (122 : Int))))) = true) ∧ (
  ((!((decide (c ≥ (97 : Int))) && (decide (c ≤ (122 : Int))))) = true → (decide (c ≥ (65 : Int))) = true → ((!((decide (c ≥ (97 : Int))) && (decide (c ≤ (122 : Int))))) && (decide (c ≥ (65 : Int)))) = true) ∧ (
  (((decide (c ≥ (97 : Int))) && (decide (c ≤ (122 : Int)))) = false → (!((decide (c ≥ (97 : Int))) && (decide (c ≤ (122 : Int))))) = true) ∧ (
  ((!(((decide (c ≥ (97 : Int))) && (decide (c ≤ (122 : Int)))) || ((decide (c ≥ (65 : Int))) && (decide (c ≤ (90 : Int)))))) = true → (!(((decide (c ≥ (97 : Int))) && (decide (c ≤ (122 : Int)))) || ((decide (c ≥ (65 : Int))) && (decide (c ≤ (90 : Int)))))) = true) ∧ (
  ((((decide (c ≥ (97 : Int))) && (decide (c ≤ (122 : Int)))) || ((decide (c ≥ (65 : Int))) && (decide (c ≤ (90 : Int))))) = false → (!(((decide (c ≥ (97 : Int))) && (decide (c ≤ (122 : Int)))) || ((decide (c ≥ (65 : Int))) && (decide (c ≤ (90 : Int)))))) = true) ∧ (
  (
   ((((decide (c ≥ (97 : Int))) && (decide (c ≤ (122 : Int)))) || ((decide (c ≥ (65 : Int))) && (decide (c ≤ (90 : Int))))) || (c == (95 : Int))) = true → (
   R (.bool true) w))
  ∧ (
   ((((decide (c ≥ (97 : Int))) && (decide (c ≤ (122 : Int)))) || ((decide (c ≥ (65 : Int))) && (decide (c ≤ (90 : Int))))) || (c == (95 : Int))) = false → (
   (!((((decide (c ≥ (97 : Int))) && (decide (c ≤ (122 : Int)))) || ((decide (c ≥ (65 : Int))) && (decide (c ≤ (90 : Int))))) || (c == (95 : Int)))) = true ∧ (
   Calls Try.prog 44 #[.int .u8 c] w fun (e : Ending) (w_1 : World) => (
   ∃ r_digit : Bool,
   e = .returned (.bool r_digit) ∧ (
   R (.bool r_digit) w_1)))))))))))))))
def Sh.ref17_letter_h : Vc.H := (.seq (.reg (.p 0 0 (.done 0))) (.seq (.reg (.p 0 0 (.p 1 0 (.p 2 0 (.p 3 0 (.p 4 0 (.p 5 0 (.p 6 0 (.p 7 0 (.p 8 0 (.p 9 0 (.p 10 0 (.p 11 0 (.p 12 0 (.p 13 0 (.p 14 0 (.p 15 0 (.p 16 0 (.p 17 0 (.p 18 0 (.p 19 0 (.s 21 (.sk 20 (.p 21 1 (.p 22 0 (.done 0)))) (.o 20 0 (.p 21 1 (.p 22 0 (.done 0)))))))))))))))))))))))))) (.nil 0)))
theorem Sh.ref17_letter_eq (c : Int) (w : World) (R : Value → World → Prop) : Sh.ref17_letter c w R = Vc.vcFn Try.prog tab okF Try.f46 Sh.ref17_letter_h [.int .u8 c] w R := by kernel_rfl
theorem Sh.ref17_letter_calls (c : Int) {w : World} {R : Value → World → Prop} (h : Sh.ref17_letter c w R) : Calls Try.prog 46 #[.int .u8 c] w fun e w' => ∃ v, e = .returned v ∧ R v w' :=
  Vc.fn_calls mixed tabOk okF_ok Try.func46 (by kernel_rfl) (by kernel_rfl) (by rw [← Sh.ref17_letter_eq c]; exact h)

def Sh.ref17_upper (s : ByteArray) (w : World) (R : Value → World → Prop) : Prop :=
  -- umlautref17.go:31
  -- umlautref17.go:32
  ∃ (t6 : Option Addr) (t6_len t6_cap : Nat),
  ∃ w_1 : World,
  (convert 9 102 (.string s)).run Try.prog w = .ok (.slice t6 t6_len t6_cap) w_1 ∧ (
  -- umlautref17.go:33
  -- LOOP 9: i
  ∃ (I : Int → World → Prop) (μ : Int → World → Nat),
  (
   I (0 : Int) w_1)
  ∧ (
   ∀ (i : Int),
   ∀ w_2 : World,
   I i w_2 → (
   -- umlautref17.go:33
   (
    (decide (i < ((t6_len : Nat) : Int))) = true → (
    -- umlautref17.go:34
    ∃ p : Addr,
    t6 = some p ∧ (
    (0 ≤ i ∧ i < ((t6_len : Nat) : Int)) ∧ (
    ∃ t16 : Int,
    w_2.cell? (p.add (i.toNat * 1)) = some (.int .u8 t16) ∧ (
    ((decide (t16 ≥ (97 : Int))) = true → (decide (t16 ≥ (97 : Int))) = true) ∧ (
    ((decide (t16 ≥ (97 : Int))) = true → (decide (t16 ≥ (97 : Int))) = true) ∧ (
    ∃ p_1 : Addr,
    ((decide (t16 ≥ (97 : Int))) = true → t6 = some p_1 ∧ (0 ≤ i ∧ i < ((t6_len : Nat) : Int))) ∧ (
    (
     (decide (t16 ≥ (97 : Int))) = true → (
     (decide (t16 ≥ (97 : Int))) = true ∧ (
     ∃ t22 : Int,
     w_2.cell? (p_1.add (i.toNat * 1)) = some (.int .u8 t22) ∧ (
     (
      (decide (t22 ≤ (122 : Int))) = true → (
      -- umlautref17.go:35
      ∃ p_2 : Addr,
      t6 = some p_2 ∧ (
      (0 ≤ i ∧ i < ((t6_len : Nat) : Int)) ∧ (
      ∃ t30 : Int,
      w_2.cell? (p_2.add (i.toNat * 1)) = some (.int .u8 t30) ∧ (
      ∃ p_3 : Addr,
      t6 = some p_3 ∧ (
      (0 ≤ i ∧ i < ((t6_len : Nat) : Int)) ∧ (
      (w_2.cell? (p_3.add (i.toNat * 1))).isSome = true ∧ (
      w_2.frozen? (p_3.add (i.toNat * 1)) = false ∧ (
      -- umlautref17.go:33
      I (IntKind.i64.wrap (i + (1 : Int))) (w_2.setCell (p_3.add (i.toNat * 1)) (.int .u8 (IntKind.u8.wrap (t30 - (32 : Int))))) ∧ μ (IntKind.i64.wrap (i + (1 : Int))) (w_2.setCell (p_3.add (i.toNat * 1)) (.int .u8 (IntKind.u8.wrap (t30 - (32 : Int))))) < μ i w_2)))))))))
     ∧ (
      (decide (t22 ≤ (122 : Int))) = false → (
      -- umlautref17.go:33
      I (IntKind.i64.wrap (i + (1 : Int))) w_2 ∧ μ (IntKind.i64.wrap (i + (1 : Int))) w_2 < μ i w_2))))))
    ∧ (
     (decide (t16 ≥ (97 : Int))) = false → (
     -- umlautref17.go:33
     I (IntKind.i64.wrap (i + (1 : Int))) w_2 ∧ μ (IntKind.i64.wrap (i + (1 : Int))) w_2 < μ i w_2))))))))))
   ∧ (
    (decide (i < ((t6_len : Nat) : Int))) = false → (
    -- umlautref17.go:38
    ∃ t34 : ByteArray,
    ∃ w_3 : World,
    (convert 102 9 (.slice t6 t6_len t6_cap)).run Try.prog w_2 = .ok (.string t34) w_3 ∧ (
    R (.string t34) w_3))))))
def Sh.ref17_upper_h : Vc.H := (.seq (.reg (.p 0 0 (.done 0))) (.seq (.reg (.p 0 0 (.o 1 9 (.p 2 0 (.done 0))))) (.seq (.seq (.reg (.p 0 0 (.done 0))) (.block (.loop [((0, 4), .int .i64)] [(0, 7), (0, 8), (0, 9), (0, 10), (0, 13), (0, 14), (0, 15), (0, 16), (0, 17), (0, 18), (0, 19), (0, 20), (0, 21), (0, 22), (0, 23), (0, 24), (0, 25), (0, 26), (0, 27), (0, 28), (0, 29), (0, 30), (0, 31), (0, 32), (0, 11), (0, 12)] (.seq (.seq (.reg (.p 0 0 (.p 1 0 (.p 2 0 (.p 3 0 (.done 0)))))) (.cond false (.nil 0) (.nil 0))) (.seq (.block (.seq (.reg (.p 0 0 (.p 1 0 (.p 2 1 (.o 3 0 (.p 4 0 (.p 5 0 (.p 6 0 (.p 7 0 (.p 8 1 (.s 18 (.o 9 0 (.p 10 8 (.p 11 1 (.done 0)))) (.sk 9 (.sk 10 (.p 11 1 (.done 1))))))))))))))) (.alt (.cond false (.reg (.p 0 0 (.p 1 0 (.p 2 0 (.p 3 0 (.p 4 1 (.o 5 0 (.p 6 0 (.p 7 1 (.o 8 0 (.done 0))))))))))) (.nil 0)) (.cond true (.nil 0) (.nil 0))))) (.reg (.p 0 0 (.p 1 0 (.p 2 0 (.done 0)))))))))) (.seq (.reg (.p 0 0 (.o 1 9 (.p 2 0 (.done 0))))) (.nil 0)))))
theorem Sh.ref17_upper_eq (s : ByteArray) (w : World) (R : Value → World → Prop) : Sh.ref17_upper s w R = Vc.vcFn Try.prog tab okF Try.f47 Sh.ref17_upper_h [.string s] w R := by kernel_rfl
theorem Sh.ref17_upper_calls (s : ByteArray) {w : World} {R : Value → World → Prop} (h : Sh.ref17_upper s w R) : Calls Try.prog 47 #[.string s] w fun e w' => ∃ v, e = .returned v ∧ R v w' :=
  Vc.fn_calls mixed tabOk okF_ok Try.func47 (by kernel_rfl) (by kernel_rfl) (by rw [← Sh.ref17_upper_eq s]; exact h)

def Sh.ref17_isWord (s : ByteArray) (w : World) (R : Value → World → Prop) : Prop :=
  -- umlautref17.go:53
  -- umlautref17.go:54
  Calls Try.prog 59 #[] w fun (e : Ending) (w_1 : World) => (
  ∃ (r_Words : Option Addr) (r_Words_len r_Words_cap : Nat),
  e = .returned (.slice r_Words r_Words_len r_Words_cap) ∧ (
  -- umlautref17.go:55
  -- LOOP 9: i
  ∃ (I : Int → World → Prop) (μ : Int → World → Nat),
  (
   I (0 : Int) w_1)
  ∧ (
   ∀ (i : Int),
   ∀ w_2 : World,
   I i w_2 → (
   -- umlautref17.go:55
   (
    (decide (i < ((r_Words_len : Nat) : Int))) = true → (
    -- umlautref17.go:56
    ∃ p : Addr,
    r_Words = some p ∧ (
    (0 ≤ i ∧ i < ((r_Words_len : Nat) : Int)) ∧ (
    ∃ t15 : ByteArray,
    w_2.cell? (p.add (i.toNat * 1)) = some (.string t15) ∧ (
    (
     (t15.toList == s.toList) = true → (
     -- umlautref17.go:57
     R (.bool true) w_2))
    ∧ (
     (t15.toList == s.toList) = false → (
     -- umlautref17.go:55
     I (IntKind.i64.wrap (i + (1 : Int))) w_2 ∧ μ (IntKind.i64.wrap (i + (1 : Int))) w_2 < μ i w_2)))))))
   ∧ (
    (decide (i < ((r_Words_len : Nat) : Int))) = false → (
    -- umlautref17.go:60
    R (.bool false) w_2))))))
def Sh.ref17_isWord_h : Vc.H := (.seq (.reg (.p 0 0 (.done 0))) (.seq (.reg (.o 0 0 (.p 1 0 (.done 0)))) (.seq (.seq (.reg (.p 0 0 (.done 0))) (.block (.loop [((0, 4), .int .i64)] [(0, 6), (0, 7), (0, 8), (0, 9), (0, 12), (0, 13), (0, 14), (0, 15), (0, 16), (0, 17), (0, 2), (0, 10), (0, 11)] (.seq (.seq (.reg (.p 0 0 (.p 1 0 (.p 2 0 (.p 3 0 (.done 0)))))) (.cond false (.nil 0) (.nil 0))) (.seq (.block (.seq (.reg (.p 0 0 (.p 1 0 (.p 2 1 (.o 3 0 (.p 4 0 (.p 5 0 (.done 0)))))))) (.cond false (.seq (.reg (.p 0 0 (.done 0))) (.nil 0)) (.nil 0)))) (.reg (.p 0 0 (.p 1 0 (.p 2 0 (.done 0)))))))))) (.seq (.reg (.p 0 0 (.done 0))) (.nil 0)))))
theorem Sh.ref17_isWord_eq (s : ByteArray) (w : World) (R : Value → World → Prop) : Sh.ref17_isWord s w R = Vc.vcFn Try.prog tab okF Try.f48 Sh.ref17_isWord_h [.string s] w R := by kernel_rfl
theorem Sh.ref17_isWord_calls (s : ByteArray) {w : World} {R : Value → World → Prop} (h : Sh.ref17_isWord s w R) : Calls Try.prog 48 #[.string s] w fun e w' => ∃ v, e = .returned v ∧ R v w' :=
  Vc.fn_calls mixed tabOk okF_ok Try.func48 (by kernel_rfl) (by kernel_rfl) (by rw [← Sh.ref17_isWord_eq s]; exact h)

def Sh.ref17_lower (s : ByteArray) (w : World) (R : Value → World → Prop) : Prop :=
  -- umlautref17.go:42
  -- umlautref17.go:43
  ∃ (t6 : Option Addr) (t6_len t6_cap : Nat),
  ∃ w_1 : World,
  (convert 9 102 (.string s)).run Try.prog w = .ok (.slice t6 t6_len t6_cap) w_1 ∧ (
  -- umlautref17.go:44
  -- LOOP 9: i
  ∃ (I : Int → World → Prop) (μ : Int → World → Nat),
  (
   I (0 : Int) w_1)
  ∧ (
   ∀ (i : Int),
   ∀ w_2 : World,
   I i w_2 → (
   -- umlautref17.go:44
   (
    (decide (i < ((t6_len : Nat) : Int))) = true → (
    -- umlautref17.go:45
    ∃ p : Addr,
    t6 = some p ∧ (
    (0 ≤ i ∧ i < ((t6_len : Nat) : Int)) ∧ (
    ∃ t16 : Int,
    w_2.cell? (p.add (i.toNat * 1)) = some (.int .u8 t16) ∧ (
    ((decide (t16 ≥ (65 : Int))) = true → (decide (t16 ≥ (65 : Int))) = true) ∧ (
    ((decide (t16 ≥ (65 : Int))) = true → (decide (t16 ≥ (65 : Int))) = true) ∧ (
    ∃ p_1 : Addr,
    ((decide (t16 ≥ (65 : Int))) = true → t6 = some p_1 ∧ (0 ≤ i ∧ i < ((t6_len : Nat) : Int))) ∧ (
    (
     (decide (t16 ≥ (65 : Int))) = true → (
     (decide (t16 ≥ (65 : Int))) = true ∧ (
     ∃ t22 : Int,
     w_2.cell? (p_1.add (i.toNat * 1)) = some (.int .u8 t22) ∧ (
     (
      (decide (t22 ≤ (90 : Int))) = true → (
      -- umlautref17.go:46
      ∃ p_2 : Addr,
      t6 = some p_2 ∧ (
      (0 ≤ i ∧ i < ((t6_len : Nat) : Int)) ∧ (
      ∃ t30 : Int,
      w_2.cell? (p_2.add (i.toNat * 1)) = some (.int .u8 t30) ∧ (
      ∃ p_3 : Addr,
      t6 = some p_3 ∧ (
      (0 ≤ i ∧ i < ((t6_len : Nat) : Int)) ∧ (
      (w_2.cell? (p_3.add (i.toNat * 1))).isSome = true ∧ (
      w_2.frozen? (p_3.add (i.toNat * 1)) = false ∧ (
      -- umlautref17.go:44
      I (IntKind.i64.wrap (i + (1 : Int))) (w_2.setCell (p_3.add (i.toNat * 1)) (.int .u8 (IntKind.u8.wrap (t30 + (32 : Int))))) ∧ μ (IntKind.i64.wrap (i + (1 : Int))) (w_2.setCell (p_3.add (i.toNat * 1)) (.int .u8 (IntKind.u8.wrap (t30 + (32 : Int))))) < μ i w_2)))))))))
     ∧ (
      (decide (t22 ≤ (90 : Int))) = false → (
      -- umlautref17.go:44
      I (IntKind.i64.wrap (i + (1 : Int))) w_2 ∧ μ (IntKind.i64.wrap (i + (1 : Int))) w_2 < μ i w_2))))))
    ∧ (
     (decide (t16 ≥ (65 : Int))) = false → (
     -- umlautref17.go:44
     I (IntKind.i64.wrap (i + (1 : Int))) w_2 ∧ μ (IntKind.i64.wrap (i + (1 : Int))) w_2 < μ i w_2))))))))))
   ∧ (
    (decide (i < ((t6_len : Nat) : Int))) = false → (
    -- umlautref17.go:49
    ∃ t34 : ByteArray,
    ∃ w_3 : World,
    (convert 102 9 (.slice t6 t6_len t6_cap)).run Try.prog w_2 = .ok (.string t34) w_3 ∧ (
    R (.string t34) w_3))))))
def Sh.ref17_lower_h : Vc.H := (.seq (.reg (.p 0 0 (.done 0))) (.seq (.reg (.p 0 0 (.o 1 9 (.p 2 0 (.done 0))))) (.seq (.seq (.reg (.p 0 0 (.done 0))) (.block (.loop [((0, 4), .int .i64)] [(0, 7), (0, 8), (0, 9), (0, 10), (0, 13), (0, 14), (0, 15), (0, 16), (0, 17), (0, 18), (0, 19), (0, 20), (0, 21), (0, 22), (0, 23), (0, 24), (0, 25), (0, 26), (0, 27), (0, 28), (0, 29), (0, 30), (0, 31), (0, 32), (0, 11), (0, 12)] (.seq (.seq (.reg (.p 0 0 (.p 1 0 (.p 2 0 (.p 3 0 (.done 0)))))) (.cond false (.nil 0) (.nil 0))) (.seq (.block (.seq (.reg (.p 0 0 (.p 1 0 (.p 2 1 (.o 3 0 (.p 4 0 (.p 5 0 (.p 6 0 (.p 7 0 (.p 8 1 (.s 18 (.o 9 0 (.p 10 8 (.p 11 1 (.done 0)))) (.sk 9 (.sk 10 (.p 11 1 (.done 1))))))))))))))) (.alt (.cond false (.reg (.p 0 0 (.p 1 0 (.p 2 0 (.p 3 0 (.p 4 1 (.o 5 0 (.p 6 0 (.p 7 1 (.o 8 0 (.done 0))))))))))) (.nil 0)) (.cond true (.nil 0) (.nil 0))))) (.reg (.p 0 0 (.p 1 0 (.p 2 0 (.done 0)))))))))) (.seq (.reg (.p 0 0 (.o 1 9 (.p 2 0 (.done 0))))) (.nil 0)))))
theorem Sh.ref17_lower_eq (s : ByteArray) (w : World) (R : Value → World → Prop) : Sh.ref17_lower s w R = Vc.vcFn Try.prog tab okF Try.f49 Sh.ref17_lower_h [.string s] w R := by kernel_rfl
theorem Sh.ref17_lower_calls (s : ByteArray) {w : World} {R : Value → World → Prop} (h : Sh.ref17_lower s w R) : Calls Try.prog 49 #[.string s] w fun e w' => ∃ v, e = .returned v ∧ R v w' :=
  Vc.fn_calls mixed tabOk okF_ok Try.func49 (by kernel_rfl) (by kernel_rfl) (by rw [← Sh.ref17_lower_eq s]; exact h)

def Sh.ref17_text (s : ByteArray) (at_1 : Int) (w : World) (R : Value → World → Prop) : Prop :=
  -- umlautref17.go:93
  -- umlautref17.go:94
  -- umlautref17.go:95
  -- LOOP 9: out, i
  ∃ (I : ByteArray → Int → World → Prop) (μ : ByteArray → Int → World → Nat),
  (
   I (⟨#[]⟩ : ByteArray) (IntKind.i64.wrap (at_1 + (1 : Int))) w)
  ∧ (
   ∀ (out : ByteArray) (i : Int),
   ∀ w_1 : World,
   I out i w_1 → (
   -- umlautref17.go:95
   (
    (decide (i < (s.size : Int))) = true → (
    -- umlautref17.go:96
    ∃ c : UInt8,
    (0 ≤ i ∧ s[i.toNat]? = some c) ∧ (
    (
     ((c.toNat : Int) != (39 : Int)) = true → (
     -- umlautref17.go:97
     (0 ≤ i ∧ i ≤ (IntKind.i64.wrap (i + (1 : Int))) ∧ (IntKind.i64.wrap (i + (1 : Int))) ≤ (s.size : Int)) ∧ (
     ((out.size + (s.extract i.toNat (IntKind.i64.wrap (i + (1 : Int))).toNat).size : Nat) : Int) ≤ 9223372036854775807 ∧ (
     -- umlautref17.go:95
     I (out ++ (s.extract i.toNat (IntKind.i64.wrap (i + (1 : Int))).toNat)) (IntKind.i64.wrap (i + (1 : Int))) w_1 ∧ μ (out ++ (s.extract i.toNat (IntKind.i64.wrap (i + (1 : Int))).toNat)) (IntKind.i64.wrap (i + (1 : Int))) w_1 < μ out i w_1))))
    ∧ (
     ((c.toNat : Int) != (39 : Int)) = false → (
     -- umlautref17.go:100
     ((decide ((IntKind.i64.wrap (i + (1 : Int))) < (s.size : Int))) = true → (decide ((IntKind.i64.wrap (i + (1 : Int))) < (s.size : Int))) = true) ∧ (
     ((decide ((IntKind.i64.wrap (i + (1 : Int))) < (s.size : Int))) = true → (decide ((IntKind.i64.wrap (i + (1 : Int))) < (s.size : Int))) = true) ∧ (
     ((decide ((IntKind.i64.wrap (i + (1 : Int))) < (s.size : Int))) = true → (decide ((IntKind.i64.wrap (i + (1 : Int))) < (s.size : Int))) = true) ∧ (
     ∃ c_1 : UInt8,
     ((decide ((IntKind.i64.wrap (i + (1 : Int))) < (s.size : Int))) = true → 0 ≤ (IntKind.i64.wrap (i + (1 : Int))) ∧ s[(IntKind.i64.wrap (i + (1 : Int))).toNat]? = some c_1) ∧ (
     ((decide ((IntKind.i64.wrap (i + (1 : Int))) < (s.size : Int))) = true → (decide ((IntKind.i64.wrap (i + (1 : Int))) < (s.size : Int))) = true) ∧ (
     ((decide ((IntKind.i64.wrap (i + (1 : Int))) < (s.size : Int))) = true → (decide ((IntKind.i64.wrap (i + (1 : Int))) < (s.size : Int))) = true) ∧ (
     (
      ((decide ((IntKind.i64.wrap (i + (1 : Int))) < (s.size : Int))) && ((c_1.toNat : Int) == (39 : Int))) = true → (
      -- umlautref17.go:101
      ((out.size + (⟨#[39]⟩ : ByteArray).size : Nat) : Int) ≤ 9223372036854775807 ∧ (
      -- umlautref17.go:102
      -- umlautref17.go:95
      I (out ++ (⟨#[39]⟩ : ByteArray)) (IntKind.i64.wrap ((IntKind.i64.wrap (i + (1 : Int))) + (1 : Int))) w_1 ∧ μ (out ++ (⟨#[39]⟩ : ByteArray)) (IntKind.i64.wrap ((IntKind.i64.wrap (i + (1 : Int))) + (1 : Int))) w_1 < μ out i w_1)))
     ∧ (
      ((decide ((IntKind.i64.wrap (i + (1 : Int))) < (s.size : Int))) && ((c_1.toNat : Int) == (39 : Int))) = false → (
      -- umlautref17.go:105
      R (.tuple #[.string out, .int .i64 (IntKind.i64.wrap (i + (1 : Int))), .bool true]) w_1)))))))))))))
   ∧ (
    (decide (i < (s.size : Int))) = false → (
    -- umlautref17.go:107
    R (.tuple #[.string (⟨#[]⟩ : ByteArray), .int .i64 (0 : Int), .bool false]) w_1))))
def Sh.ref17_text_h : Vc.H := (.seq (.reg (.p 0 0 (.p 1 0 (.p 2 0 (.done 0))))) (.seq (.reg (.p 0 0 (.done 0))) (.seq (.seq (.reg (.p 0 0 (.p 1 0 (.p 2 0 (.done 0))))) (.block (.loop [((0, 7), .str), ((0, 8), .int .i64)] [(0, 11), (0, 12), (0, 13), (0, 14), (0, 17), (0, 18), (0, 19), (0, 20), (0, 21), (0, 22), (0, 23), (0, 24), (0, 25), (0, 26), (0, 27), (0, 28), (0, 29), (0, 30), (0, 31), (0, 32), (0, 33), (0, 34), (0, 35), (0, 36), (0, 37), (0, 38), (0, 39), (0, 40), (0, 41), (0, 42), (0, 43), (0, 44), (0, 45), (0, 46), (0, 4), (0, 5), (0, 6), (0, 15), (0, 16)] (.seq (.seq (.reg (.p 0 0 (.p 1 0 (.p 2 0 (.p 3 0 (.done 0)))))) (.cond false (.nil 0) (.nil 0))) (.seq (.block (.seq (.seq (.reg (.p 0 0 (.p 1 0 (.p 2 0 (.p 3 0 (.done 0)))))) (.cond false (.seq (.reg (.p 0 0 (.p 1 0 (.p 2 0 (.p 3 0 (.p 4 0 (.p 5 0 (.p 6 0 (.p 7 0 (.done 0)))))))))) (.nil 0)) (.nil 0))) (.seq (.seq (.reg (.p 0 0 (.p 1 0 (.p 2 0 (.p 3 0 (.p 4 0 (.p 5 0 (.p 6 0 (.p 7 0 (.p 8 0 (.p 9 0 (.p 10 0 (.p 11 0 (.done 0)))))))))))))) (.cond false (.seq (.reg (.p 0 0 (.p 1 0 (.p 2 0 (.done 0))))) (.seq (.reg (.p 0 0 (.p 1 0 (.p 2 0 (.done 0))))) (.nil 0))) (.nil 0))) (.seq (.reg (.p 0 0 (.p 1 0 (.p 2 0 (.p 3 0 (.p 4 0 (.p 5 0 (.done 0)))))))) (.nil 0))))) (.reg (.p 0 0 (.p 1 0 (.p 2 0 (.done 0)))))))))) (.seq (.reg (.p 0 0 (.p 1 0 (.p 2 0 (.done 0))))) (.nil 0)))))
theorem Sh.ref17_text_eq (s : ByteArray) (at_1 : Int) (w : World) (R : Value → World → Prop) : Sh.ref17_text s at_1 w R = Vc.vcFn Try.prog tab okF Try.f50 Sh.ref17_text_h [.string s, .int .i64 at_1] w R := by kernel_rfl
theorem Sh.ref17_text_calls (s : ByteArray) (at_1 : Int) {w : World} {R : Value → World → Prop} (h : Sh.ref17_text s at_1 w R) : Calls Try.prog 50 #[.string s, .int .i64 at_1] w fun e w' => ∃ v, e = .returned v ∧ R v w' :=
  Vc.fn_calls mixed tabOk okF_ok Try.func50 (by kernel_rfl) (by kernel_rfl) (by rw [← Sh.ref17_text_eq s at_1]; exact h)

def Sh.ref17_op (s : ByteArray) (w : World) (R : Value → World → Prop) : Prop :=
  -- umlautref17.go:78
  -- umlautref17.go:79
  (
   (decide ((s.size : Int) ≥ (2 : Int))) = true → (
   -- umlautref17.go:80
   (0 ≤ (2 : Int) ∧ (2 : Int) ≤ (s.size : Int)) ∧ (
   -- umlautref17.go:81
   (
    ((s.extract 0 (2 : Int).toNat).toList == (⟨#[60, 62]⟩ : ByteArray).toList) = true → (
    (
     ((s.extract 0 (2 : Int).toNat).toList == (⟨#[60, 62]⟩ : ByteArray).toList) = true → (
     -- umlautref17.go:82
     (0 ≤ (2 : Int) ∧ (2 : Int) ≤ (s.size : Int)) ∧ (
     R (.string (s.extract 0 (2 : Int).toNat)) w)))
    ∧ (
     ((s.extract 0 (2 : Int).toNat).toList == (⟨#[60, 62]⟩ : ByteArray).toList) = false → (
     -- umlautref17.go:85
     ∃ c : UInt8,
     (0 ≤ (0 : Int) ∧ s[(0 : Int).toNat]? = some c) ∧ (
     -- umlautref17.go:86
     (
      ((c.toNat : Int) == (40 : Int)) = true → (
      (
       ((c.toNat : Int) == (40 : Int)) = true → (
       -- umlautref17.go:87
       (0 ≤ (1 : Int) ∧ (1 : Int) ≤ (s.size : Int)) ∧ (
       R (.string (s.extract 0 (1 : Int).toNat)) w)))
      ∧ (
       ((c.toNat : Int) == (40 : Int)) = false → (
       -- umlautref17.go:89
       R (.string (⟨#[]⟩ : ByteArray)) w))))
     ∧ (
      ((c.toNat : Int) == (40 : Int)) = false → (
      -- umlautref17.go:86
      (
       ((c.toNat : Int) == (41 : Int)) = true → (
       (
        ((c.toNat : Int) == (41 : Int)) = true → (
        -- umlautref17.go:87
        (0 ≤ (1 : Int) ∧ (1 : Int) ≤ (s.size : Int)) ∧ (
        R (.string (s.extract 0 (1 : Int).toNat)) w)))
       ∧ (
        ((c.toNat : Int) == (41 : Int)) = false → (
        -- umlautref17.go:89
        R (.string (⟨#[]⟩ : ByteArray)) w))))
      ∧ (
       ((c.toNat : Int) == (41 : Int)) = false → (
       -- umlautref17.go:86
       (
        ((c.toNat : Int) == (44 : Int)) = true → (
        (
         ((c.toNat : Int) == (44 : Int)) = true → (
         -- umlautref17.go:87
         (0 ≤ (1 : Int) ∧ (1 : Int) ≤ (s.size : Int)) ∧ (
         R (.string (s.extract 0 (1 : Int).toNat)) w)))
        ∧ (
         ((c.toNat : Int) == (44 : Int)) = false → (
         -- umlautref17.go:89
         R (.string (⟨#[]⟩ : ByteArray)) w))))
       ∧ (
        ((c.toNat : Int) == (44 : Int)) = false → (
        -- umlautref17.go:86
        (
         ((c.toNat : Int) == (46 : Int)) = true → (
         (
          ((c.toNat : Int) == (46 : Int)) = true → (
          -- umlautref17.go:87
          (0 ≤ (1 : Int) ∧ (1 : Int) ≤ (s.size : Int)) ∧ (
          R (.string (s.extract 0 (1 : Int).toNat)) w)))
         ∧ (
          ((c.toNat : Int) == (46 : Int)) = false → (
          -- umlautref17.go:89
          R (.string (⟨#[]⟩ : ByteArray)) w))))
        ∧ (
         ((c.toNat : Int) == (46 : Int)) = false → (
         -- umlautref17.go:86
         (
          ((c.toNat : Int) == (59 : Int)) = true → (
          (
           ((c.toNat : Int) == (59 : Int)) = true → (
           -- umlautref17.go:87
           (0 ≤ (1 : Int) ∧ (1 : Int) ≤ (s.size : Int)) ∧ (
           R (.string (s.extract 0 (1 : Int).toNat)) w)))
          ∧ (
           ((c.toNat : Int) == (59 : Int)) = false → (
           -- umlautref17.go:89
           R (.string (⟨#[]⟩ : ByteArray)) w))))
         ∧ (
          ((c.toNat : Int) == (59 : Int)) = false → (
          -- umlautref17.go:86
          (
           ((c.toNat : Int) == (42 : Int)) = true → (
           (
            ((c.toNat : Int) == (42 : Int)) = true → (
            -- umlautref17.go:87
            (0 ≤ (1 : Int) ∧ (1 : Int) ≤ (s.size : Int)) ∧ (
            R (.string (s.extract 0 (1 : Int).toNat)) w)))
           ∧ (
            ((c.toNat : Int) == (42 : Int)) = false → (
            -- umlautref17.go:89
            R (.string (⟨#[]⟩ : ByteArray)) w))))
          ∧ (
           ((c.toNat : Int) == (42 : Int)) = false → (
           -- umlautref17.go:86
           (
            ((c.toNat : Int) == (61 : Int)) = true → (
            (
             ((c.toNat : Int) == (61 : Int)) = true → (
             -- umlautref17.go:87
             (0 ≤ (1 : Int) ∧ (1 : Int) ≤ (s.size : Int)) ∧ (
             R (.string (s.extract 0 (1 : Int).toNat)) w)))
            ∧ (
             ((c.toNat : Int) == (61 : Int)) = false → (
             -- umlautref17.go:89
             R (.string (⟨#[]⟩ : ByteArray)) w))))
           ∧ (
            ((c.toNat : Int) == (61 : Int)) = false → (
            -- umlautref17.go:86
            (
             ((c.toNat : Int) == (60 : Int)) = true → (
             (
              ((c.toNat : Int) == (60 : Int)) = true → (
              -- umlautref17.go:87
              (0 ≤ (1 : Int) ∧ (1 : Int) ≤ (s.size : Int)) ∧ (
              R (.string (s.extract 0 (1 : Int).toNat)) w)))
             ∧ (
              ((c.toNat : Int) == (60 : Int)) = false → (
              -- umlautref17.go:89
              R (.string (⟨#[]⟩ : ByteArray)) w))))
            ∧ (
             ((c.toNat : Int) == (60 : Int)) = false → (
             -- umlautref17.go:86
             (
              ((c.toNat : Int) == (62 : Int)) = true → (
              (
               ((c.toNat : Int) == (62 : Int)) = true → (
               -- umlautref17.go:87
               (0 ≤ (1 : Int) ∧ (1 : Int) ≤ (s.size : Int)) ∧ (
               R (.string (s.extract 0 (1 : Int).toNat)) w)))
              ∧ (
               ((c.toNat : Int) == (62 : Int)) = false → (
               -- umlautref17.go:89
               R (.string (⟨#[]⟩ : ByteArray)) w))))
             ∧ (
              ((c.toNat : Int) == (62 : Int)) = false → (
              -- umlautref17.go:86
              (
               ((c.toNat : Int) == (43 : Int)) = true → (
               (
                ((c.toNat : Int) == (43 : Int)) = true → (
                -- umlautref17.go:87
                (0 ≤ (1 : Int) ∧ (1 : Int) ≤ (s.size : Int)) ∧ (
                R (.string (s.extract 0 (1 : Int).toNat)) w)))
               ∧ (
                ((c.toNat : Int) == (43 : Int)) = false → (
                -- umlautref17.go:89
                R (.string (⟨#[]⟩ : ByteArray)) w))))
              ∧ (
               ((c.toNat : Int) == (43 : Int)) = false → (
               -- umlautref17.go:86
               (
                ((c.toNat : Int) == (45 : Int)) = true → (
                (
                 ((c.toNat : Int) == (45 : Int)) = true → (
                 -- umlautref17.go:87
                 (0 ≤ (1 : Int) ∧ (1 : Int) ≤ (s.size : Int)) ∧ (
                 R (.string (s.extract 0 (1 : Int).toNat)) w)))
                ∧ (
                 ((c.toNat : Int) == (45 : Int)) = false → (
                 -- umlautref17.go:89
                 R (.string (⟨#[]⟩ : ByteArray)) w))))
               ∧ (
                ((c.toNat : Int) == (45 : Int)) = false → (
                -- umlautref17.go:86
                (
                 ((c.toNat : Int) == (47 : Int)) = true → (
                 (
                  ((c.toNat : Int) == (47 : Int)) = true → (
                  -- umlautref17.go:87
                  (0 ≤ (1 : Int) ∧ (1 : Int) ≤ (s.size : Int)) ∧ (
                  R (.string (s.extract 0 (1 : Int).toNat)) w)))
                 ∧ (
                  ((c.toNat : Int) == (47 : Int)) = false → (
                  -- umlautref17.go:89
                  R (.string (⟨#[]⟩ : ByteArray)) w))))
                ∧ (
                 ((c.toNat : Int) == (47 : Int)) = false → (
                 -- umlautref17.go:86
                 (
                  ((c.toNat : Int) == (37 : Int)) = true → (
                  (
                   ((c.toNat : Int) == (37 : Int)) = true → (
                   -- umlautref17.go:87
                   (0 ≤ (1 : Int) ∧ (1 : Int) ≤ (s.size : Int)) ∧ (
                   R (.string (s.extract 0 (1 : Int).toNat)) w)))
                  ∧ (
                   ((c.toNat : Int) == (37 : Int)) = false → (
                   -- umlautref17.go:89
                   R (.string (⟨#[]⟩ : ByteArray)) w))))
                 ∧ (
                  ((c.toNat : Int) == (37 : Int)) = false → (
                  -- umlautref17.go:86
                  (
                   ((c.toNat : Int) == (38 : Int)) = true → (
                   (
                    ((c.toNat : Int) == (38 : Int)) = true → (
                    -- umlautref17.go:87
                    (0 ≤ (1 : Int) ∧ (1 : Int) ≤ (s.size : Int)) ∧ (
                    R (.string (s.extract 0 (1 : Int).toNat)) w)))
                   ∧ (
                    ((c.toNat : Int) == (38 : Int)) = false → (
                    -- umlautref17.go:89
                    R (.string (⟨#[]⟩ : ByteArray)) w))))
                  ∧ (
                   ((c.toNat : Int) == (38 : Int)) = false → (
                   -- umlautref17.go:86
                   (
                    ((c.toNat : Int) == (124 : Int)) = true → (
                    (
                     ((c.toNat : Int) == (124 : Int)) = true → (
                     -- umlautref17.go:87
                     (0 ≤ (1 : Int) ∧ (1 : Int) ≤ (s.size : Int)) ∧ (
                     R (.string (s.extract 0 (1 : Int).toNat)) w)))
                    ∧ (
                     ((c.toNat : Int) == (124 : Int)) = false → (
                     -- umlautref17.go:89
                     R (.string (⟨#[]⟩ : ByteArray)) w))))
                   ∧ (
                    ((c.toNat : Int) == (124 : Int)) = false → (
                    -- umlautref17.go:86
                    (
                     ((c.toNat : Int) == (94 : Int)) = true → (
                     -- umlautref17.go:87
                     (0 ≤ (1 : Int) ∧ (1 : Int) ≤ (s.size : Int)) ∧ (
                     R (.string (s.extract 0 (1 : Int).toNat)) w)))
                    ∧ (
                     ((c.toNat : Int) == (94 : Int)) = false → (
                     -- umlautref17.go:89
                     R (.string (⟨#[]⟩ : ByteArray)) w)))))))))))))))))))))))))))))))))))))
   ∧ (
    ((s.extract 0 (2 : Int).toNat).toList == (⟨#[60, 62]⟩ : ByteArray).toList) = false → (
    -- umlautref17.go:81
    (
     ((s.extract 0 (2 : Int).toNat).toList == (⟨#[60, 61]⟩ : ByteArray).toList) = true → (
     (
      ((s.extract 0 (2 : Int).toNat).toList == (⟨#[60, 61]⟩ : ByteArray).toList) = true → (
      -- umlautref17.go:82
      (0 ≤ (2 : Int) ∧ (2 : Int) ≤ (s.size : Int)) ∧ (
      R (.string (s.extract 0 (2 : Int).toNat)) w)))
     ∧ (
      ((s.extract 0 (2 : Int).toNat).toList == (⟨#[60, 61]⟩ : ByteArray).toList) = false → (
      -- umlautref17.go:85
      ∃ c_1 : UInt8,
      (0 ≤ (0 : Int) ∧ s[(0 : Int).toNat]? = some c_1) ∧ (
      -- umlautref17.go:86
      (
       ((c_1.toNat : Int) == (40 : Int)) = true → (
       (
        ((c_1.toNat : Int) == (40 : Int)) = true → (
        -- umlautref17.go:87
        (0 ≤ (1 : Int) ∧ (1 : Int) ≤ (s.size : Int)) ∧ (
        R (.string (s.extract 0 (1 : Int).toNat)) w)))
       ∧ (
        ((c_1.toNat : Int) == (40 : Int)) = false → (
        -- umlautref17.go:89
        R (.string (⟨#[]⟩ : ByteArray)) w))))
      ∧ (
       ((c_1.toNat : Int) == (40 : Int)) = false → (
       -- umlautref17.go:86
       (
        ((c_1.toNat : Int) == (41 : Int)) = true → (
        (
         ((c_1.toNat : Int) == (41 : Int)) = true → (
         -- umlautref17.go:87
         (0 ≤ (1 : Int) ∧ (1 : Int) ≤ (s.size : Int)) ∧ (
         R (.string (s.extract 0 (1 : Int).toNat)) w)))
        ∧ (
         ((c_1.toNat : Int) == (41 : Int)) = false → (
         -- umlautref17.go:89
         R (.string (⟨#[]⟩ : ByteArray)) w))))
       ∧ (
        ((c_1.toNat : Int) == (41 : Int)) = false → (
        -- umlautref17.go:86
        (
         ((c_1.toNat : Int) == (44 : Int)) = true → (
         (
          ((c_1.toNat : Int) == (44 : Int)) = true → (
          -- umlautref17.go:87
          (0 ≤ (1 : Int) ∧ (1 : Int) ≤ (s.size : Int)) ∧ (
          R (.string (s.extract 0 (1 : Int).toNat)) w)))
         ∧ (
          ((c_1.toNat : Int) == (44 : Int)) = false → (
          -- umlautref17.go:89
          R (.string (⟨#[]⟩ : ByteArray)) w))))
        ∧ (
         ((c_1.toNat : Int) == (44 : Int)) = false → (
         -- umlautref17.go:86
         (
          ((c_1.toNat : Int) == (46 : Int)) = true → (
          (
           ((c_1.toNat : Int) == (46 : Int)) = true → (
           -- umlautref17.go:87
           (0 ≤ (1 : Int) ∧ (1 : Int) ≤ (s.size : Int)) ∧ (
           R (.string (s.extract 0 (1 : Int).toNat)) w)))
          ∧ (
           ((c_1.toNat : Int) == (46 : Int)) = false → (
           -- umlautref17.go:89
           R (.string (⟨#[]⟩ : ByteArray)) w))))
         ∧ (
          ((c_1.toNat : Int) == (46 : Int)) = false → (
          -- umlautref17.go:86
          (
           ((c_1.toNat : Int) == (59 : Int)) = true → (
           (
            ((c_1.toNat : Int) == (59 : Int)) = true → (
            -- umlautref17.go:87
            (0 ≤ (1 : Int) ∧ (1 : Int) ≤ (s.size : Int)) ∧ (
            R (.string (s.extract 0 (1 : Int).toNat)) w)))
           ∧ (
            ((c_1.toNat : Int) == (59 : Int)) = false → (
            -- umlautref17.go:89
            R (.string (⟨#[]⟩ : ByteArray)) w))))
          ∧ (
           ((c_1.toNat : Int) == (59 : Int)) = false → (
           -- umlautref17.go:86
           (
            ((c_1.toNat : Int) == (42 : Int)) = true → (
            (
             ((c_1.toNat : Int) == (42 : Int)) = true → (
             -- umlautref17.go:87
             (0 ≤ (1 : Int) ∧ (1 : Int) ≤ (s.size : Int)) ∧ (
             R (.string (s.extract 0 (1 : Int).toNat)) w)))
            ∧ (
             ((c_1.toNat : Int) == (42 : Int)) = false → (
             -- umlautref17.go:89
             R (.string (⟨#[]⟩ : ByteArray)) w))))
           ∧ (
            ((c_1.toNat : Int) == (42 : Int)) = false → (
            -- umlautref17.go:86
            (
             ((c_1.toNat : Int) == (61 : Int)) = true → (
             (
              ((c_1.toNat : Int) == (61 : Int)) = true → (
              -- umlautref17.go:87
              (0 ≤ (1 : Int) ∧ (1 : Int) ≤ (s.size : Int)) ∧ (
              R (.string (s.extract 0 (1 : Int).toNat)) w)))
             ∧ (
              ((c_1.toNat : Int) == (61 : Int)) = false → (
              -- umlautref17.go:89
              R (.string (⟨#[]⟩ : ByteArray)) w))))
            ∧ (
             ((c_1.toNat : Int) == (61 : Int)) = false → (
             -- umlautref17.go:86
             (
              ((c_1.toNat : Int) == (60 : Int)) = true → (
              (
               ((c_1.toNat : Int) == (60 : Int)) = true → (
               -- umlautref17.go:87
               (0 ≤ (1 : Int) ∧ (1 : Int) ≤ (s.size : Int)) ∧ (
               R (.string (s.extract 0 (1 : Int).toNat)) w)))
              ∧ (
               ((c_1.toNat : Int) == (60 : Int)) = false → (
               -- umlautref17.go:89
               R (.string (⟨#[]⟩ : ByteArray)) w))))
             ∧ (
              ((c_1.toNat : Int) == (60 : Int)) = false → (
              -- umlautref17.go:86
              (
               ((c_1.toNat : Int) == (62 : Int)) = true → (
               (
                ((c_1.toNat : Int) == (62 : Int)) = true → (
                -- umlautref17.go:87
                (0 ≤ (1 : Int) ∧ (1 : Int) ≤ (s.size : Int)) ∧ (
                R (.string (s.extract 0 (1 : Int).toNat)) w)))
               ∧ (
                ((c_1.toNat : Int) == (62 : Int)) = false → (
                -- umlautref17.go:89
                R (.string (⟨#[]⟩ : ByteArray)) w))))
              ∧ (
               ((c_1.toNat : Int) == (62 : Int)) = false → (
               -- umlautref17.go:86
               (
                ((c_1.toNat : Int) == (43 : Int)) = true → (
                (
                 ((c_1.toNat : Int) == (43 : Int)) = true → (
                 -- umlautref17.go:87
                 (0 ≤ (1 : Int) ∧ (1 : Int) ≤ (s.size : Int)) ∧ (
                 R (.string (s.extract 0 (1 : Int).toNat)) w)))
                ∧ (
                 ((c_1.toNat : Int) == (43 : Int)) = false → (
                 -- umlautref17.go:89
                 R (.string (⟨#[]⟩ : ByteArray)) w))))
               ∧ (
                ((c_1.toNat : Int) == (43 : Int)) = false → (
                -- umlautref17.go:86
                (
                 ((c_1.toNat : Int) == (45 : Int)) = true → (
                 (
                  ((c_1.toNat : Int) == (45 : Int)) = true → (
                  -- umlautref17.go:87
                  (0 ≤ (1 : Int) ∧ (1 : Int) ≤ (s.size : Int)) ∧ (
                  R (.string (s.extract 0 (1 : Int).toNat)) w)))
                 ∧ (
                  ((c_1.toNat : Int) == (45 : Int)) = false → (
                  -- umlautref17.go:89
                  R (.string (⟨#[]⟩ : ByteArray)) w))))
                ∧ (
                 ((c_1.toNat : Int) == (45 : Int)) = false → (
                 -- umlautref17.go:86
                 (
                  ((c_1.toNat : Int) == (47 : Int)) = true → (
                  (
                   ((c_1.toNat : Int) == (47 : Int)) = true → (
                   -- umlautref17.go:87
                   (0 ≤ (1 : Int) ∧ (1 : Int) ≤ (s.size : Int)) ∧ (
                   R (.string (s.extract 0 (1 : Int).toNat)) w)))
                  ∧ (
                   ((c_1.toNat : Int) == (47 : Int)) = false → (
                   -- umlautref17.go:89
                   R (.string (⟨#[]⟩ : ByteArray)) w))))
                 ∧ (
                  ((c_1.toNat : Int) == (47 : Int)) = false → (
                  -- umlautref17.go:86
                  (
                   ((c_1.toNat : Int) == (37 : Int)) = true → (
                   (
                    ((c_1.toNat : Int) == (37 : Int)) = true → (
                    -- umlautref17.go:87
                    (0 ≤ (1 : Int) ∧ (1 : Int) ≤ (s.size : Int)) ∧ (
                    R (.string (s.extract 0 (1 : Int).toNat)) w)))
                   ∧ (
                    ((c_1.toNat : Int) == (37 : Int)) = false → (
                    -- umlautref17.go:89
                    R (.string (⟨#[]⟩ : ByteArray)) w))))
                  ∧ (
                   ((c_1.toNat : Int) == (37 : Int)) = false → (
                   -- umlautref17.go:86
                   (
                    ((c_1.toNat : Int) == (38 : Int)) = true → (
                    (
                     ((c_1.toNat : Int) == (38 : Int)) = true → (
                     -- umlautref17.go:87
                     (0 ≤ (1 : Int) ∧ (1 : Int) ≤ (s.size : Int)) ∧ (
                     R (.string (s.extract 0 (1 : Int).toNat)) w)))
                    ∧ (
                     ((c_1.toNat : Int) == (38 : Int)) = false → (
                     -- umlautref17.go:89
                     R (.string (⟨#[]⟩ : ByteArray)) w))))
                   ∧ (
                    ((c_1.toNat : Int) == (38 : Int)) = false → (
                    -- umlautref17.go:86
                    (
                     ((c_1.toNat : Int) == (124 : Int)) = true → (
                     (
                      ((c_1.toNat : Int) == (124 : Int)) = true → (
                      -- umlautref17.go:87
                      (0 ≤ (1 : Int) ∧ (1 : Int) ≤ (s.size : Int)) ∧ (
                      R (.string (s.extract 0 (1 : Int).toNat)) w)))
                     ∧ (
                      ((c_1.toNat : Int) == (124 : Int)) = false → (
                      -- umlautref17.go:89
                      R (.string (⟨#[]⟩ : ByteArray)) w))))
                    ∧ (
                     ((c_1.toNat : Int) == (124 : Int)) = false → (
                     -- umlautref17.go:86
                     (
                      ((c_1.toNat : Int) == (94 : Int)) = true → (
                      -- umlautref17.go:87
                      (0 ≤ (1 : Int) ∧ (1 : Int) ≤ (s.size : Int)) ∧ (
                      R (.string (s.extract 0 (1 : Int).toNat)) w)))
                     ∧ (
                      ((c_1.toNat : Int) == (94 : Int)) = false → (
                      -- umlautref17.go:89
                      R (.string (⟨#[]⟩ : ByteArray)) w)))))))))))))))))))))))))))))))))))))
    ∧ (
     ((s.extract 0 (2 : Int).toNat).toList == (⟨#[60, 61]⟩ : ByteArray).toList) = false → (
     -- umlautref17.go:81
     (
      ((s.extract 0 (2 : Int).toNat).toList == (⟨#[62, 61]⟩ : ByteArray).toList) = true → (
      (
       ((s.extract 0 (2 : Int).toNat).toList == (⟨#[62, 61]⟩ : ByteArray).toList) = true → (
       -- umlautref17.go:82
       (0 ≤ (2 : Int) ∧ (2 : Int) ≤ (s.size : Int)) ∧ (
       R (.string (s.extract 0 (2 : Int).toNat)) w)))
      ∧ (
       ((s.extract 0 (2 : Int).toNat).toList == (⟨#[62, 61]⟩ : ByteArray).toList) = false → (
       -- umlautref17.go:85
       ∃ c_2 : UInt8,
       (0 ≤ (0 : Int) ∧ s[(0 : Int).toNat]? = some c_2) ∧ (
       -- umlautref17.go:86
       (
        ((c_2.toNat : Int) == (40 : Int)) = true → (
        (
         ((c_2.toNat : Int) == (40 : Int)) = true → (
         -- umlautref17.go:87
         (0 ≤ (1 : Int) ∧ (1 : Int) ≤ (s.size : Int)) ∧ (
         R (.string (s.extract 0 (1 : Int).toNat)) w)))
        ∧ (
         ((c_2.toNat : Int) == (40 : Int)) = false → (
         -- umlautref17.go:89
         R (.string (⟨#[]⟩ : ByteArray)) w))))
       ∧ (
        ((c_2.toNat : Int) == (40 : Int)) = false → (
        -- umlautref17.go:86
        (
         ((c_2.toNat : Int) == (41 : Int)) = true → (
         (
          ((c_2.toNat : Int) == (41 : Int)) = true → (
          -- umlautref17.go:87
          (0 ≤ (1 : Int) ∧ (1 : Int) ≤ (s.size : Int)) ∧ (
          R (.string (s.extract 0 (1 : Int).toNat)) w)))
         ∧ (
          ((c_2.toNat : Int) == (41 : Int)) = false → (
          -- umlautref17.go:89
          R (.string (⟨#[]⟩ : ByteArray)) w))))
        ∧ (
         ((c_2.toNat : Int) == (41 : Int)) = false → (
         -- umlautref17.go:86
         (
          ((c_2.toNat : Int) == (44 : Int)) = true → (
          (
           ((c_2.toNat : Int) == (44 : Int)) = true → (
           -- umlautref17.go:87
           (0 ≤ (1 : Int) ∧ (1 : Int) ≤ (s.size : Int)) ∧ (
           R (.string (s.extract 0 (1 : Int).toNat)) w)))
          ∧ (
           ((c_2.toNat : Int) == (44 : Int)) = false → (
           -- umlautref17.go:89
           R (.string (⟨#[]⟩ : ByteArray)) w))))
         ∧ (
          ((c_2.toNat : Int) == (44 : Int)) = false → (
          -- umlautref17.go:86
          (
           ((c_2.toNat : Int) == (46 : Int)) = true → (
           (
            ((c_2.toNat : Int) == (46 : Int)) = true → (
            -- umlautref17.go:87
            (0 ≤ (1 : Int) ∧ (1 : Int) ≤ (s.size : Int)) ∧ (
            R (.string (s.extract 0 (1 : Int).toNat)) w)))
           ∧ (
            ((c_2.toNat : Int) == (46 : Int)) = false → (
            -- umlautref17.go:89
            R (.string (⟨#[]⟩ : ByteArray)) w))))
          ∧ (
           ((c_2.toNat : Int) == (46 : Int)) = false → (
           -- umlautref17.go:86
           (
            ((c_2.toNat : Int) == (59 : Int)) = true → (
            (
             ((c_2.toNat : Int) == (59 : Int)) = true → (
             -- umlautref17.go:87
             (0 ≤ (1 : Int) ∧ (1 : Int) ≤ (s.size : Int)) ∧ (
             R (.string (s.extract 0 (1 : Int).toNat)) w)))
            ∧ (
             ((c_2.toNat : Int) == (59 : Int)) = false → (
             -- umlautref17.go:89
             R (.string (⟨#[]⟩ : ByteArray)) w))))
           ∧ (
            ((c_2.toNat : Int) == (59 : Int)) = false → (
            -- umlautref17.go:86
            (
             ((c_2.toNat : Int) == (42 : Int)) = true → (
             (
              ((c_2.toNat : Int) == (42 : Int)) = true → (
              -- umlautref17.go:87
              (0 ≤ (1 : Int) ∧ (1 : Int) ≤ (s.size : Int)) ∧ (
              R (.string (s.extract 0 (1 : Int).toNat)) w)))
             ∧ (
              ((c_2.toNat : Int) == (42 : Int)) = false → (
              -- umlautref17.go:89
              R (.string (⟨#[]⟩ : ByteArray)) w))))
            ∧ (
             ((c_2.toNat : Int) == (42 : Int)) = false → (
             -- umlautref17.go:86
             (
              ((c_2.toNat : Int) == (61 : Int)) = true → (
              (
               ((c_2.toNat : Int) == (61 : Int)) = true → (
               -- umlautref17.go:87
               (0 ≤ (1 : Int) ∧ (1 : Int) ≤ (s.size : Int)) ∧ (
               R (.string (s.extract 0 (1 : Int).toNat)) w)))
              ∧ (
               ((c_2.toNat : Int) == (61 : Int)) = false → (
               -- umlautref17.go:89
               R (.string (⟨#[]⟩ : ByteArray)) w))))
             ∧ (
              ((c_2.toNat : Int) == (61 : Int)) = false → (
              -- umlautref17.go:86
              (
               ((c_2.toNat : Int) == (60 : Int)) = true → (
               (
                ((c_2.toNat : Int) == (60 : Int)) = true → (
                -- umlautref17.go:87
                (0 ≤ (1 : Int) ∧ (1 : Int) ≤ (s.size : Int)) ∧ (
                R (.string (s.extract 0 (1 : Int).toNat)) w)))
               ∧ (
                ((c_2.toNat : Int) == (60 : Int)) = false → (
                -- umlautref17.go:89
                R (.string (⟨#[]⟩ : ByteArray)) w))))
              ∧ (
               ((c_2.toNat : Int) == (60 : Int)) = false → (
               -- umlautref17.go:86
               (
                ((c_2.toNat : Int) == (62 : Int)) = true → (
                (
                 ((c_2.toNat : Int) == (62 : Int)) = true → (
                 -- umlautref17.go:87
                 (0 ≤ (1 : Int) ∧ (1 : Int) ≤ (s.size : Int)) ∧ (
                 R (.string (s.extract 0 (1 : Int).toNat)) w)))
                ∧ (
                 ((c_2.toNat : Int) == (62 : Int)) = false → (
                 -- umlautref17.go:89
                 R (.string (⟨#[]⟩ : ByteArray)) w))))
               ∧ (
                ((c_2.toNat : Int) == (62 : Int)) = false → (
                -- umlautref17.go:86
                (
                 ((c_2.toNat : Int) == (43 : Int)) = true → (
                 (
                  ((c_2.toNat : Int) == (43 : Int)) = true → (
                  -- umlautref17.go:87
                  (0 ≤ (1 : Int) ∧ (1 : Int) ≤ (s.size : Int)) ∧ (
                  R (.string (s.extract 0 (1 : Int).toNat)) w)))
                 ∧ (
                  ((c_2.toNat : Int) == (43 : Int)) = false → (
                  -- umlautref17.go:89
                  R (.string (⟨#[]⟩ : ByteArray)) w))))
                ∧ (
                 ((c_2.toNat : Int) == (43 : Int)) = false → (
                 -- umlautref17.go:86
                 (
                  ((c_2.toNat : Int) == (45 : Int)) = true → (
                  (
                   ((c_2.toNat : Int) == (45 : Int)) = true → (
                   -- umlautref17.go:87
                   (0 ≤ (1 : Int) ∧ (1 : Int) ≤ (s.size : Int)) ∧ (
                   R (.string (s.extract 0 (1 : Int).toNat)) w)))
                  ∧ (
                   ((c_2.toNat : Int) == (45 : Int)) = false → (
                   -- umlautref17.go:89
                   R (.string (⟨#[]⟩ : ByteArray)) w))))
                 ∧ (
                  ((c_2.toNat : Int) == (45 : Int)) = false → (
                  -- umlautref17.go:86
                  (
                   ((c_2.toNat : Int) == (47 : Int)) = true → (
                   (
                    ((c_2.toNat : Int) == (47 : Int)) = true → (
                    -- umlautref17.go:87
                    (0 ≤ (1 : Int) ∧ (1 : Int) ≤ (s.size : Int)) ∧ (
                    R (.string (s.extract 0 (1 : Int).toNat)) w)))
                   ∧ (
                    ((c_2.toNat : Int) == (47 : Int)) = false → (
                    -- umlautref17.go:89
                    R (.string (⟨#[]⟩ : ByteArray)) w))))
                  ∧ (
                   ((c_2.toNat : Int) == (47 : Int)) = false → (
                   -- umlautref17.go:86
                   (
                    ((c_2.toNat : Int) == (37 : Int)) = true → (
                    (
                     ((c_2.toNat : Int) == (37 : Int)) = true → (
                     -- umlautref17.go:87
                     (0 ≤ (1 : Int) ∧ (1 : Int) ≤ (s.size : Int)) ∧ (
                     R (.string (s.extract 0 (1 : Int).toNat)) w)))
                    ∧ (
                     ((c_2.toNat : Int) == (37 : Int)) = false → (
                     -- umlautref17.go:89
                     R (.string (⟨#[]⟩ : ByteArray)) w))))
                   ∧ (
                    ((c_2.toNat : Int) == (37 : Int)) = false → (
                    -- umlautref17.go:86
                    (
                     ((c_2.toNat : Int) == (38 : Int)) = true → (
                     (
                      ((c_2.toNat : Int) == (38 : Int)) = true → (
                      -- umlautref17.go:87
                      (0 ≤ (1 : Int) ∧ (1 : Int) ≤ (s.size : Int)) ∧ (
                      R (.string (s.extract 0 (1 : Int).toNat)) w)))
                     ∧ (
                      ((c_2.toNat : Int) == (38 : Int)) = false → (
                      -- umlautref17.go:89
                      R (.string (⟨#[]⟩ : ByteArray)) w))))
                    ∧ (
                     ((c_2.toNat : Int) == (38 : Int)) = false → (
                     -- umlautref17.go:86
                     (
                      ((c_2.toNat : Int) == (124 : Int)) = true → (
                      (
                       ((c_2.toNat : Int) == (124 : Int)) = true → (
                       -- umlautref17.go:87
                       (0 ≤ (1 : Int) ∧ (1 : Int) ≤ (s.size : Int)) ∧ (
                       R (.string (s.extract 0 (1 : Int).toNat)) w)))
                      ∧ (
                       ((c_2.toNat : Int) == (124 : Int)) = false → (
                       -- umlautref17.go:89
                       R (.string (⟨#[]⟩ : ByteArray)) w))))
                     ∧ (
                      ((c_2.toNat : Int) == (124 : Int)) = false → (
                      -- umlautref17.go:86
                      (
                       ((c_2.toNat : Int) == (94 : Int)) = true → (
                       -- umlautref17.go:87
                       (0 ≤ (1 : Int) ∧ (1 : Int) ≤ (s.size : Int)) ∧ (
                       R (.string (s.extract 0 (1 : Int).toNat)) w)))
                      ∧ (
                       ((c_2.toNat : Int) == (94 : Int)) = false → (
                       -- umlautref17.go:89
                       R (.string (⟨#[]⟩ : ByteArray)) w)))))))))))))))))))))))))))))))))))))
     ∧ (
      ((s.extract 0 (2 : Int).toNat).toList == (⟨#[62, 61]⟩ : ByteArray).toList) = false → (
      -- umlautref17.go:81
      (
       ((s.extract 0 (2 : Int).toNat).toList == (⟨#[60, 60]⟩ : ByteArray).toList) = true → (
       (
        ((s.extract 0 (2 : Int).toNat).toList == (⟨#[60, 60]⟩ : ByteArray).toList) = true → (
        -- umlautref17.go:82
        (0 ≤ (2 : Int) ∧ (2 : Int) ≤ (s.size : Int)) ∧ (
        R (.string (s.extract 0 (2 : Int).toNat)) w)))
       ∧ (
        ((s.extract 0 (2 : Int).toNat).toList == (⟨#[60, 60]⟩ : ByteArray).toList) = false → (
        -- umlautref17.go:85
        ∃ c_3 : UInt8,
        (0 ≤ (0 : Int) ∧ s[(0 : Int).toNat]? = some c_3) ∧ (
        -- umlautref17.go:86
        (
         ((c_3.toNat : Int) == (40 : Int)) = true → (
         (
          ((c_3.toNat : Int) == (40 : Int)) = true → (
          -- umlautref17.go:87
          (0 ≤ (1 : Int) ∧ (1 : Int) ≤ (s.size : Int)) ∧ (
          R (.string (s.extract 0 (1 : Int).toNat)) w)))
         ∧ (
          ((c_3.toNat : Int) == (40 : Int)) = false → (
          -- umlautref17.go:89
          R (.string (⟨#[]⟩ : ByteArray)) w))))
        ∧ (
         ((c_3.toNat : Int) == (40 : Int)) = false → (
         -- umlautref17.go:86
         (
          ((c_3.toNat : Int) == (41 : Int)) = true → (
          (
           ((c_3.toNat : Int) == (41 : Int)) = true → (
           -- umlautref17.go:87
           (0 ≤ (1 : Int) ∧ (1 : Int) ≤ (s.size : Int)) ∧ (
           R (.string (s.extract 0 (1 : Int).toNat)) w)))
          ∧ (
           ((c_3.toNat : Int) == (41 : Int)) = false → (
           -- umlautref17.go:89
           R (.string (⟨#[]⟩ : ByteArray)) w))))
         ∧ (
          ((c_3.toNat : Int) == (41 : Int)) = false → (
          -- umlautref17.go:86
          (
           ((c_3.toNat : Int) == (44 : Int)) = true → (
           (
            ((c_3.toNat : Int) == (44 : Int)) = true → (
            -- umlautref17.go:87
            (0 ≤ (1 : Int) ∧ (1 : Int) ≤ (s.size : Int)) ∧ (
            R (.string (s.extract 0 (1 : Int).toNat)) w)))
           ∧ (
            ((c_3.toNat : Int) == (44 : Int)) = false → (
            -- umlautref17.go:89
            R (.string (⟨#[]⟩ : ByteArray)) w))))
          ∧ (
           ((c_3.toNat : Int) == (44 : Int)) = false → (
           -- umlautref17.go:86
           (
            ((c_3.toNat : Int) == (46 : Int)) = true → (
            (
             ((c_3.toNat : Int) == (46 : Int)) = true → (
             -- umlautref17.go:87
             (0 ≤ (1 : Int) ∧ (1 : Int) ≤ (s.size : Int)) ∧ (
             R (.string (s.extract 0 (1 : Int).toNat)) w)))
            ∧ (
             ((c_3.toNat : Int) == (46 : Int)) = false → (
             -- umlautref17.go:89
             R (.string (⟨#[]⟩ : ByteArray)) w))))
           ∧ (
            ((c_3.toNat : Int) == (46 : Int)) = false → (
            -- umlautref17.go:86
            (
             ((c_3.toNat : Int) == (59 : Int)) = true → (
             (
              ((c_3.toNat : Int) == (59 : Int)) = true → (
              -- umlautref17.go:87
              (0 ≤ (1 : Int) ∧ (1 : Int) ≤ (s.size : Int)) ∧ (
              R (.string (s.extract 0 (1 : Int).toNat)) w)))
             ∧ (
              ((c_3.toNat : Int) == (59 : Int)) = false → (
              -- umlautref17.go:89
              R (.string (⟨#[]⟩ : ByteArray)) w))))
            ∧ (
             ((c_3.toNat : Int) == (59 : Int)) = false → (
             -- umlautref17.go:86
             (
              ((c_3.toNat : Int) == (42 : Int)) = true → (
              (
               ((c_3.toNat : Int) == (42 : Int)) = true → (
               -- umlautref17.go:87
               (0 ≤ (1 : Int) ∧ (1 : Int) ≤ (s.size : Int)) ∧ (
               R (.string (s.extract 0 (1 : Int).toNat)) w)))
              ∧ (
               ((c_3.toNat : Int) == (42 : Int)) = false → (
               -- umlautref17.go:89
               R (.string (⟨#[]⟩ : ByteArray)) w))))
             ∧ (
              ((c_3.toNat : Int) == (42 : Int)) = false → (
              -- umlautref17.go:86
              (
               ((c_3.toNat : Int) == (61 : Int)) = true → (
               (
                ((c_3.toNat : Int) == (61 : Int)) = true → (
                -- umlautref17.go:87
                (0 ≤ (1 : Int) ∧ (1 : Int) ≤ (s.size : Int)) ∧ (
                R (.string (s.extract 0 (1 : Int).toNat)) w)))
               ∧ (
                ((c_3.toNat : Int) == (61 : Int)) = false → (
                -- umlautref17.go:89
                R (.string (⟨#[]⟩ : ByteArray)) w))))
              ∧ (
               ((c_3.toNat : Int) == (61 : Int)) = false → (
               -- umlautref17.go:86
               (
                ((c_3.toNat : Int) == (60 : Int)) = true → (
                (
                 ((c_3.toNat : Int) == (60 : Int)) = true → (
                 -- umlautref17.go:87
                 (0 ≤ (1 : Int) ∧ (1 : Int) ≤ (s.size : Int)) ∧ (
                 R (.string (s.extract 0 (1 : Int).toNat)) w)))
                ∧ (
                 ((c_3.toNat : Int) == (60 : Int)) = false → (
                 -- umlautref17.go:89
                 R (.string (⟨#[]⟩ : ByteArray)) w))))
               ∧ (
                ((c_3.toNat : Int) == (60 : Int)) = false → (
                -- umlautref17.go:86
                (
                 ((c_3.toNat : Int) == (62 : Int)) = true → (
                 (
                  ((c_3.toNat : Int) == (62 : Int)) = true → (
                  -- umlautref17.go:87
                  (0 ≤ (1 : Int) ∧ (1 : Int) ≤ (s.size : Int)) ∧ (
                  R (.string (s.extract 0 (1 : Int).toNat)) w)))
                 ∧ (
                  ((c_3.toNat : Int) == (62 : Int)) = false → (
                  -- umlautref17.go:89
                  R (.string (⟨#[]⟩ : ByteArray)) w))))
                ∧ (
                 ((c_3.toNat : Int) == (62 : Int)) = false → (
                 -- umlautref17.go:86
                 (
                  ((c_3.toNat : Int) == (43 : Int)) = true → (
                  (
                   ((c_3.toNat : Int) == (43 : Int)) = true → (
                   -- umlautref17.go:87
                   (0 ≤ (1 : Int) ∧ (1 : Int) ≤ (s.size : Int)) ∧ (
                   R (.string (s.extract 0 (1 : Int).toNat)) w)))
                  ∧ (
                   ((c_3.toNat : Int) == (43 : Int)) = false → (
                   -- umlautref17.go:89
                   R (.string (⟨#[]⟩ : ByteArray)) w))))
                 ∧ (
                  ((c_3.toNat : Int) == (43 : Int)) = false → (
                  -- umlautref17.go:86
                  (
                   ((c_3.toNat : Int) == (45 : Int)) = true → (
                   (
                    ((c_3.toNat : Int) == (45 : Int)) = true → (
                    -- umlautref17.go:87
                    (0 ≤ (1 : Int) ∧ (1 : Int) ≤ (s.size : Int)) ∧ (
                    R (.string (s.extract 0 (1 : Int).toNat)) w)))
                   ∧ (
                    ((c_3.toNat : Int) == (45 : Int)) = false → (
                    -- umlautref17.go:89
                    R (.string (⟨#[]⟩ : ByteArray)) w))))
                  ∧ (
                   ((c_3.toNat : Int) == (45 : Int)) = false → (
                   -- umlautref17.go:86
                   (
                    ((c_3.toNat : Int) == (47 : Int)) = true → (
                    (
                     ((c_3.toNat : Int) == (47 : Int)) = true → (
                     -- umlautref17.go:87
                     (0 ≤ (1 : Int) ∧ (1 : Int) ≤ (s.size : Int)) ∧ (
                     R (.string (s.extract 0 (1 : Int).toNat)) w)))
                    ∧ (
                     ((c_3.toNat : Int) == (47 : Int)) = false → (
                     -- umlautref17.go:89
                     R (.string (⟨#[]⟩ : ByteArray)) w))))
                   ∧ (
                    ((c_3.toNat : Int) == (47 : Int)) = false → (
                    -- umlautref17.go:86
                    (
                     ((c_3.toNat : Int) == (37 : Int)) = true → (
                     (
                      ((c_3.toNat : Int) == (37 : Int)) = true → (
                      -- umlautref17.go:87
                      (0 ≤ (1 : Int) ∧ (1 : Int) ≤ (s.size : Int)) ∧ (
                      R (.string (s.extract 0 (1 : Int).toNat)) w)))
                     ∧ (
                      ((c_3.toNat : Int) == (37 : Int)) = false → (
                      -- umlautref17.go:89
                      R (.string (⟨#[]⟩ : ByteArray)) w))))
                    ∧ (
                     ((c_3.toNat : Int) == (37 : Int)) = false → (
                     -- umlautref17.go:86
                     (
                      ((c_3.toNat : Int) == (38 : Int)) = true → (
                      (
                       ((c_3.toNat : Int) == (38 : Int)) = true → (
                       -- umlautref17.go:87
                       (0 ≤ (1 : Int) ∧ (1 : Int) ≤ (s.size : Int)) ∧ (
                       R (.string (s.extract 0 (1 : Int).toNat)) w)))
                      ∧ (
                       ((c_3.toNat : Int) == (38 : Int)) = false → (
                       -- umlautref17.go:89
                       R (.string (⟨#[]⟩ : ByteArray)) w))))
                     ∧ (
                      ((c_3.toNat : Int) == (38 : Int)) = false → (
                      -- umlautref17.go:86
                      (
                       ((c_3.toNat : Int) == (124 : Int)) = true → (
                       (
                        ((c_3.toNat : Int) == (124 : Int)) = true → (
                        -- umlautref17.go:87
                        (0 ≤ (1 : Int) ∧ (1 : Int) ≤ (s.size : Int)) ∧ (
                        R (.string (s.extract 0 (1 : Int).toNat)) w)))
                       ∧ (
                        ((c_3.toNat : Int) == (124 : Int)) = false → (
                        -- umlautref17.go:89
                        R (.string (⟨#[]⟩ : ByteArray)) w))))
                      ∧ (
                       ((c_3.toNat : Int) == (124 : Int)) = false → (
                       -- umlautref17.go:86
                       (
                        ((c_3.toNat : Int) == (94 : Int)) = true → (
                        -- umlautref17.go:87
                        (0 ≤ (1 : Int) ∧ (1 : Int) ≤ (s.size : Int)) ∧ (
                        R (.string (s.extract 0 (1 : Int).toNat)) w)))
                       ∧ (
                        ((c_3.toNat : Int) == (94 : Int)) = false → (
                        -- umlautref17.go:89
                        R (.string (⟨#[]⟩ : ByteArray)) w)))))))))))))))))))))))))))))))))))))
      ∧ (
       ((s.extract 0 (2 : Int).toNat).toList == (⟨#[60, 60]⟩ : ByteArray).toList) = false → (
       -- umlautref17.go:81
       (
        ((s.extract 0 (2 : Int).toNat).toList == (⟨#[62, 62]⟩ : ByteArray).toList) = true → (
        (
         ((s.extract 0 (2 : Int).toNat).toList == (⟨#[62, 62]⟩ : ByteArray).toList) = true → (
         -- umlautref17.go:82
         (0 ≤ (2 : Int) ∧ (2 : Int) ≤ (s.size : Int)) ∧ (
         R (.string (s.extract 0 (2 : Int).toNat)) w)))
        ∧ (
         ((s.extract 0 (2 : Int).toNat).toList == (⟨#[62, 62]⟩ : ByteArray).toList) = false → (
         -- umlautref17.go:85
         ∃ c_4 : UInt8,
         (0 ≤ (0 : Int) ∧ s[(0 : Int).toNat]? = some c_4) ∧ (
         -- umlautref17.go:86
         (
          ((c_4.toNat : Int) == (40 : Int)) = true → (
          (
           ((c_4.toNat : Int) == (40 : Int)) = true → (
           -- umlautref17.go:87
           (0 ≤ (1 : Int) ∧ (1 : Int) ≤ (s.size : Int)) ∧ (
           R (.string (s.extract 0 (1 : Int).toNat)) w)))
          ∧ (
           ((c_4.toNat : Int) == (40 : Int)) = false → (
           -- umlautref17.go:89
           R (.string (⟨#[]⟩ : ByteArray)) w))))
         ∧ (
          ((c_4.toNat : Int) == (40 : Int)) = false → (
          -- umlautref17.go:86
          (
           ((c_4.toNat : Int) == (41 : Int)) = true → (
           (
            ((c_4.toNat : Int) == (41 : Int)) = true → (
            -- umlautref17.go:87
            (0 ≤ (1 : Int) ∧ (1 : Int) ≤ (s.size : Int)) ∧ (
            R (.string (s.extract 0 (1 : Int).toNat)) w)))
           ∧ (
            ((c_4.toNat : Int) == (41 : Int)) = false → (
            -- umlautref17.go:89
            R (.string (⟨#[]⟩ : ByteArray)) w))))
          ∧ (
           ((c_4.toNat : Int) == (41 : Int)) = false → (
           -- umlautref17.go:86
           (
            ((c_4.toNat : Int) == (44 : Int)) = true → (
            (
             ((c_4.toNat : Int) == (44 : Int)) = true → (
             -- umlautref17.go:87
             (0 ≤ (1 : Int) ∧ (1 : Int) ≤ (s.size : Int)) ∧ (
             R (.string (s.extract 0 (1 : Int).toNat)) w)))
            ∧ (
             ((c_4.toNat : Int) == (44 : Int)) = false → (
             -- umlautref17.go:89
             R (.string (⟨#[]⟩ : ByteArray)) w))))
           ∧ (
            ((c_4.toNat : Int) == (44 : Int)) = false → (
            -- umlautref17.go:86
            (
             ((c_4.toNat : Int) == (46 : Int)) = true → (
             (
              ((c_4.toNat : Int) == (46 : Int)) = true → (
              -- umlautref17.go:87
              (0 ≤ (1 : Int) ∧ (1 : Int) ≤ (s.size : Int)) ∧ (
              R (.string (s.extract 0 (1 : Int).toNat)) w)))
             ∧ (
              ((c_4.toNat : Int) == (46 : Int)) = false → (
              -- umlautref17.go:89
              R (.string (⟨#[]⟩ : ByteArray)) w))))
            ∧ (
             ((c_4.toNat : Int) == (46 : Int)) = false → (
             -- umlautref17.go:86
             (
              ((c_4.toNat : Int) == (59 : Int)) = true → (
              (
               ((c_4.toNat : Int) == (59 : Int)) = true → (
               -- umlautref17.go:87
               (0 ≤ (1 : Int) ∧ (1 : Int) ≤ (s.size : Int)) ∧ (
               R (.string (s.extract 0 (1 : Int).toNat)) w)))
              ∧ (
               ((c_4.toNat : Int) == (59 : Int)) = false → (
               -- umlautref17.go:89
               R (.string (⟨#[]⟩ : ByteArray)) w))))
             ∧ (
              ((c_4.toNat : Int) == (59 : Int)) = false → (
              -- umlautref17.go:86
              (
               ((c_4.toNat : Int) == (42 : Int)) = true → (
               (
                ((c_4.toNat : Int) == (42 : Int)) = true → (
                -- umlautref17.go:87
                (0 ≤ (1 : Int) ∧ (1 : Int) ≤ (s.size : Int)) ∧ (
                R (.string (s.extract 0 (1 : Int).toNat)) w)))
               ∧ (
                ((c_4.toNat : Int) == (42 : Int)) = false → (
                -- umlautref17.go:89
                R (.string (⟨#[]⟩ : ByteArray)) w))))
              ∧ (
               ((c_4.toNat : Int) == (42 : Int)) = false → (
               -- umlautref17.go:86
               (
                ((c_4.toNat : Int) == (61 : Int)) = true → (
                (
                 ((c_4.toNat : Int) == (61 : Int)) = true → (
                 -- umlautref17.go:87
                 (0 ≤ (1 : Int) ∧ (1 : Int) ≤ (s.size : Int)) ∧ (
                 R (.string (s.extract 0 (1 : Int).toNat)) w)))
                ∧ (
                 ((c_4.toNat : Int) == (61 : Int)) = false → (
                 -- umlautref17.go:89
                 R (.string (⟨#[]⟩ : ByteArray)) w))))
               ∧ (
                ((c_4.toNat : Int) == (61 : Int)) = false → (
                -- umlautref17.go:86
                (
                 ((c_4.toNat : Int) == (60 : Int)) = true → (
                 (
                  ((c_4.toNat : Int) == (60 : Int)) = true → (
                  -- umlautref17.go:87
                  (0 ≤ (1 : Int) ∧ (1 : Int) ≤ (s.size : Int)) ∧ (
                  R (.string (s.extract 0 (1 : Int).toNat)) w)))
                 ∧ (
                  ((c_4.toNat : Int) == (60 : Int)) = false → (
                  -- umlautref17.go:89
                  R (.string (⟨#[]⟩ : ByteArray)) w))))
                ∧ (
                 ((c_4.toNat : Int) == (60 : Int)) = false → (
                 -- umlautref17.go:86
                 (
                  ((c_4.toNat : Int) == (62 : Int)) = true → (
                  (
                   ((c_4.toNat : Int) == (62 : Int)) = true → (
                   -- umlautref17.go:87
                   (0 ≤ (1 : Int) ∧ (1 : Int) ≤ (s.size : Int)) ∧ (
                   R (.string (s.extract 0 (1 : Int).toNat)) w)))
                  ∧ (
                   ((c_4.toNat : Int) == (62 : Int)) = false → (
                   -- umlautref17.go:89
                   R (.string (⟨#[]⟩ : ByteArray)) w))))
                 ∧ (
                  ((c_4.toNat : Int) == (62 : Int)) = false → (
                  -- umlautref17.go:86
                  (
                   ((c_4.toNat : Int) == (43 : Int)) = true → (
                   (
                    ((c_4.toNat : Int) == (43 : Int)) = true → (
                    -- umlautref17.go:87
                    (0 ≤ (1 : Int) ∧ (1 : Int) ≤ (s.size : Int)) ∧ (
                    R (.string (s.extract 0 (1 : Int).toNat)) w)))
                   ∧ (
                    ((c_4.toNat : Int) == (43 : Int)) = false → (
                    -- umlautref17.go:89
                    R (.string (⟨#[]⟩ : ByteArray)) w))))
                  ∧ (
                   ((c_4.toNat : Int) == (43 : Int)) = false → (
                   -- umlautref17.go:86
                   (
                    ((c_4.toNat : Int) == (45 : Int)) = true → (
                    (
                     ((c_4.toNat : Int) == (45 : Int)) = true → (
                     -- umlautref17.go:87
                     (0 ≤ (1 : Int) ∧ (1 : Int) ≤ (s.size : Int)) ∧ (
                     R (.string (s.extract 0 (1 : Int).toNat)) w)))
                    ∧ (
                     ((c_4.toNat : Int) == (45 : Int)) = false → (
                     -- umlautref17.go:89
                     R (.string (⟨#[]⟩ : ByteArray)) w))))
                   ∧ (
                    ((c_4.toNat : Int) == (45 : Int)) = false → (
                    -- umlautref17.go:86
                    (
                     ((c_4.toNat : Int) == (47 : Int)) = true → (
                     (
                      ((c_4.toNat : Int) == (47 : Int)) = true → (
                      -- umlautref17.go:87
                      (0 ≤ (1 : Int) ∧ (1 : Int) ≤ (s.size : Int)) ∧ (
                      R (.string (s.extract 0 (1 : Int).toNat)) w)))
                     ∧ (
                      ((c_4.toNat : Int) == (47 : Int)) = false → (
                      -- umlautref17.go:89
                      R (.string (⟨#[]⟩ : ByteArray)) w))))
                    ∧ (
                     ((c_4.toNat : Int) == (47 : Int)) = false → (
                     -- umlautref17.go:86
                     (
                      ((c_4.toNat : Int) == (37 : Int)) = true → (
                      (
                       ((c_4.toNat : Int) == (37 : Int)) = true → (
                       -- umlautref17.go:87
                       (0 ≤ (1 : Int) ∧ (1 : Int) ≤ (s.size : Int)) ∧ (
                       R (.string (s.extract 0 (1 : Int).toNat)) w)))
                      ∧ (
                       ((c_4.toNat : Int) == (37 : Int)) = false → (
                       -- umlautref17.go:89
                       R (.string (⟨#[]⟩ : ByteArray)) w))))
                     ∧ (
                      ((c_4.toNat : Int) == (37 : Int)) = false → (
                      -- umlautref17.go:86
                      (
                       ((c_4.toNat : Int) == (38 : Int)) = true → (
                       (
                        ((c_4.toNat : Int) == (38 : Int)) = true → (
                        -- umlautref17.go:87
                        (0 ≤ (1 : Int) ∧ (1 : Int) ≤ (s.size : Int)) ∧ (
                        R (.string (s.extract 0 (1 : Int).toNat)) w)))
                       ∧ (
                        ((c_4.toNat : Int) == (38 : Int)) = false → (
                        -- umlautref17.go:89
                        R (.string (⟨#[]⟩ : ByteArray)) w))))
                      ∧ (
                       ((c_4.toNat : Int) == (38 : Int)) = false → (
                       -- umlautref17.go:86
                       (
                        ((c_4.toNat : Int) == (124 : Int)) = true → (
                        (
                         ((c_4.toNat : Int) == (124 : Int)) = true → (
                         -- umlautref17.go:87
                         (0 ≤ (1 : Int) ∧ (1 : Int) ≤ (s.size : Int)) ∧ (
                         R (.string (s.extract 0 (1 : Int).toNat)) w)))
                        ∧ (
                         ((c_4.toNat : Int) == (124 : Int)) = false → (
                         -- umlautref17.go:89
                         R (.string (⟨#[]⟩ : ByteArray)) w))))
                       ∧ (
                        ((c_4.toNat : Int) == (124 : Int)) = false → (
                        -- umlautref17.go:86
                        (
                         ((c_4.toNat : Int) == (94 : Int)) = true → (
                         -- umlautref17.go:87
                         (0 ≤ (1 : Int) ∧ (1 : Int) ≤ (s.size : Int)) ∧ (
                         R (.string (s.extract 0 (1 : Int).toNat)) w)))
                        ∧ (
                         ((c_4.toNat : Int) == (94 : Int)) = false → (
                         -- umlautref17.go:89
                         R (.string (⟨#[]⟩ : ByteArray)) w)))))))))))))))))))))))))))))))))))))
       ∧ (
        ((s.extract 0 (2 : Int).toNat).toList == (⟨#[62, 62]⟩ : ByteArray).toList) = false → (
        -- umlautref17.go:81
        (
         ((s.extract 0 (2 : Int).toNat).toList == (⟨#[124, 124]⟩ : ByteArray).toList) = true → (
         -- umlautref17.go:82
         (0 ≤ (2 : Int) ∧ (2 : Int) ≤ (s.size : Int)) ∧ (
         R (.string (s.extract 0 (2 : Int).toNat)) w)))
        ∧ (
         ((s.extract 0 (2 : Int).toNat).toList == (⟨#[124, 124]⟩ : ByteArray).toList) = false → (
         -- umlautref17.go:85
         ∃ c_5 : UInt8,
         (0 ≤ (0 : Int) ∧ s[(0 : Int).toNat]? = some c_5) ∧ (
         -- umlautref17.go:86
         (
          ((c_5.toNat : Int) == (40 : Int)) = true → (
          (
           ((c_5.toNat : Int) == (40 : Int)) = true → (
           -- umlautref17.go:87
           (0 ≤ (1 : Int) ∧ (1 : Int) ≤ (s.size : Int)) ∧ (
           R (.string (s.extract 0 (1 : Int).toNat)) w)))
          ∧ (
           ((c_5.toNat : Int) == (40 : Int)) = false → (
           -- umlautref17.go:89
           R (.string (⟨#[]⟩ : ByteArray)) w))))
         ∧ (
          ((c_5.toNat : Int) == (40 : Int)) = false → (
          -- umlautref17.go:86
          (
           ((c_5.toNat : Int) == (41 : Int)) = true → (
           (
            ((c_5.toNat : Int) == (41 : Int)) = true → (
            -- umlautref17.go:87
            (0 ≤ (1 : Int) ∧ (1 : Int) ≤ (s.size : Int)) ∧ (
            R (.string (s.extract 0 (1 : Int).toNat)) w)))
           ∧ (
            ((c_5.toNat : Int) == (41 : Int)) = false → (
            -- umlautref17.go:89
            R (.string (⟨#[]⟩ : ByteArray)) w))))
          ∧ (
           ((c_5.toNat : Int) == (41 : Int)) = false → (
           -- umlautref17.go:86
           (
            ((c_5.toNat : Int) == (44 : Int)) = true → (
            (
             ((c_5.toNat : Int) == (44 : Int)) = true → (
             -- umlautref17.go:87
             (0 ≤ (1 : Int) ∧ (1 : Int) ≤ (s.size : Int)) ∧ (
             R (.string (s.extract 0 (1 : Int).toNat)) w)))
            ∧ (
             ((c_5.toNat : Int) == (44 : Int)) = false → (
             -- umlautref17.go:89
             R (.string (⟨#[]⟩ : ByteArray)) w))))
           ∧ (
            ((c_5.toNat : Int) == (44 : Int)) = false → (
            -- umlautref17.go:86
            (
             ((c_5.toNat : Int) == (46 : Int)) = true → (
             (
              ((c_5.toNat : Int) == (46 : Int)) = true → (
              -- umlautref17.go:87
              (0 ≤ (1 : Int) ∧ (1 : Int) ≤ (s.size : Int)) ∧ (
              R (.string (s.extract 0 (1 : Int).toNat)) w)))
             ∧ (
              ((c_5.toNat : Int) == (46 : Int)) = false → (
              -- umlautref17.go:89
              R (.string (⟨#[]⟩ : ByteArray)) w))))
            ∧ (
             ((c_5.toNat : Int) == (46 : Int)) = false → (
             -- umlautref17.go:86
             (
              ((c_5.toNat : Int) == (59 : Int)) = true → (
              (
               ((c_5.toNat : Int) == (59 : Int)) = true → (
               -- umlautref17.go:87
               (0 ≤ (1 : Int) ∧ (1 : Int) ≤ (s.size : Int)) ∧ (
               R (.string (s.extract 0 (1 : Int).toNat)) w)))
              ∧ (
               ((c_5.toNat : Int) == (59 : Int)) = false → (
               -- umlautref17.go:89
               R (.string (⟨#[]⟩ : ByteArray)) w))))
             ∧ (
              ((c_5.toNat : Int) == (59 : Int)) = false → (
              -- umlautref17.go:86
              (
               ((c_5.toNat : Int) == (42 : Int)) = true → (
               (
                ((c_5.toNat : Int) == (42 : Int)) = true → (
                -- umlautref17.go:87
                (0 ≤ (1 : Int) ∧ (1 : Int) ≤ (s.size : Int)) ∧ (
                R (.string (s.extract 0 (1 : Int).toNat)) w)))
               ∧ (
                ((c_5.toNat : Int) == (42 : Int)) = false → (
                -- umlautref17.go:89
                R (.string (⟨#[]⟩ : ByteArray)) w))))
              ∧ (
               ((c_5.toNat : Int) == (42 : Int)) = false → (
               -- umlautref17.go:86
               (
                ((c_5.toNat : Int) == (61 : Int)) = true → (
                (
                 ((c_5.toNat : Int) == (61 : Int)) = true → (
                 -- umlautref17.go:87
                 (0 ≤ (1 : Int) ∧ (1 : Int) ≤ (s.size : Int)) ∧ (
                 R (.string (s.extract 0 (1 : Int).toNat)) w)))
                ∧ (
                 ((c_5.toNat : Int) == (61 : Int)) = false → (
                 -- umlautref17.go:89
                 R (.string (⟨#[]⟩ : ByteArray)) w))))
               ∧ (
                ((c_5.toNat : Int) == (61 : Int)) = false → (
                -- umlautref17.go:86
                (
                 ((c_5.toNat : Int) == (60 : Int)) = true → (
                 (
                  ((c_5.toNat : Int) == (60 : Int)) = true → (
                  -- umlautref17.go:87
                  (0 ≤ (1 : Int) ∧ (1 : Int) ≤ (s.size : Int)) ∧ (
                  R (.string (s.extract 0 (1 : Int).toNat)) w)))
                 ∧ (
                  ((c_5.toNat : Int) == (60 : Int)) = false → (
                  -- umlautref17.go:89
                  R (.string (⟨#[]⟩ : ByteArray)) w))))
                ∧ (
                 ((c_5.toNat : Int) == (60 : Int)) = false → (
                 -- umlautref17.go:86
                 (
                  ((c_5.toNat : Int) == (62 : Int)) = true → (
                  (
                   ((c_5.toNat : Int) == (62 : Int)) = true → (
                   -- umlautref17.go:87
                   (0 ≤ (1 : Int) ∧ (1 : Int) ≤ (s.size : Int)) ∧ (
                   R (.string (s.extract 0 (1 : Int).toNat)) w)))
                  ∧ (
                   ((c_5.toNat : Int) == (62 : Int)) = false → (
                   -- umlautref17.go:89
                   R (.string (⟨#[]⟩ : ByteArray)) w))))
                 ∧ (
                  ((c_5.toNat : Int) == (62 : Int)) = false → (
                  -- umlautref17.go:86
                  (
                   ((c_5.toNat : Int) == (43 : Int)) = true → (
                   (
                    ((c_5.toNat : Int) == (43 : Int)) = true → (
                    -- umlautref17.go:87
                    (0 ≤ (1 : Int) ∧ (1 : Int) ≤ (s.size : Int)) ∧ (
                    R (.string (s.extract 0 (1 : Int).toNat)) w)))
                   ∧ (
                    ((c_5.toNat : Int) == (43 : Int)) = false → (
                    -- umlautref17.go:89
                    R (.string (⟨#[]⟩ : ByteArray)) w))))
                  ∧ (
                   ((c_5.toNat : Int) == (43 : Int)) = false → (
                   -- umlautref17.go:86
                   (
                    ((c_5.toNat : Int) == (45 : Int)) = true → (
                    (
                     ((c_5.toNat : Int) == (45 : Int)) = true → (
                     -- umlautref17.go:87
                     (0 ≤ (1 : Int) ∧ (1 : Int) ≤ (s.size : Int)) ∧ (
                     R (.string (s.extract 0 (1 : Int).toNat)) w)))
                    ∧ (
                     ((c_5.toNat : Int) == (45 : Int)) = false → (
                     -- umlautref17.go:89
                     R (.string (⟨#[]⟩ : ByteArray)) w))))
                   ∧ (
                    ((c_5.toNat : Int) == (45 : Int)) = false → (
                    -- umlautref17.go:86
                    (
                     ((c_5.toNat : Int) == (47 : Int)) = true → (
                     (
                      ((c_5.toNat : Int) == (47 : Int)) = true → (
                      -- umlautref17.go:87
                      (0 ≤ (1 : Int) ∧ (1 : Int) ≤ (s.size : Int)) ∧ (
                      R (.string (s.extract 0 (1 : Int).toNat)) w)))
                     ∧ (
                      ((c_5.toNat : Int) == (47 : Int)) = false → (
                      -- umlautref17.go:89
                      R (.string (⟨#[]⟩ : ByteArray)) w))))
                    ∧ (
                     ((c_5.toNat : Int) == (47 : Int)) = false → (
                     -- umlautref17.go:86
                     (
                      ((c_5.toNat : Int) == (37 : Int)) = true → (
                      (
                       ((c_5.toNat : Int) == (37 : Int)) = true → (
                       -- umlautref17.go:87
                       (0 ≤ (1 : Int) ∧ (1 : Int) ≤ (s.size : Int)) ∧ (
                       R (.string (s.extract 0 (1 : Int).toNat)) w)))
                      ∧ (
                       ((c_5.toNat : Int) == (37 : Int)) = false → (
                       -- umlautref17.go:89
                       R (.string (⟨#[]⟩ : ByteArray)) w))))
                     ∧ (
                      ((c_5.toNat : Int) == (37 : Int)) = false → (
                      -- umlautref17.go:86
                      (
                       ((c_5.toNat : Int) == (38 : Int)) = true → (
                       (
                        ((c_5.toNat : Int) == (38 : Int)) = true → (
                        -- umlautref17.go:87
                        (0 ≤ (1 : Int) ∧ (1 : Int) ≤ (s.size : Int)) ∧ (
                        R (.string (s.extract 0 (1 : Int).toNat)) w)))
                       ∧ (
                        ((c_5.toNat : Int) == (38 : Int)) = false → (
                        -- umlautref17.go:89
                        R (.string (⟨#[]⟩ : ByteArray)) w))))
                      ∧ (
                       ((c_5.toNat : Int) == (38 : Int)) = false → (
                       -- umlautref17.go:86
                       (
                        ((c_5.toNat : Int) == (124 : Int)) = true → (
                        (
                         ((c_5.toNat : Int) == (124 : Int)) = true → (
                         -- umlautref17.go:87
                         (0 ≤ (1 : Int) ∧ (1 : Int) ≤ (s.size : Int)) ∧ (
                         R (.string (s.extract 0 (1 : Int).toNat)) w)))
                        ∧ (
                         ((c_5.toNat : Int) == (124 : Int)) = false → (
                         -- umlautref17.go:89
                         R (.string (⟨#[]⟩ : ByteArray)) w))))
                       ∧ (
                        ((c_5.toNat : Int) == (124 : Int)) = false → (
                        -- umlautref17.go:86
                        (
                         ((c_5.toNat : Int) == (94 : Int)) = true → (
                         -- umlautref17.go:87
                         (0 ≤ (1 : Int) ∧ (1 : Int) ≤ (s.size : Int)) ∧ (
                         R (.string (s.extract 0 (1 : Int).toNat)) w)))
                        ∧ (
                         ((c_5.toNat : Int) == (94 : Int)) = false → (
                         -- umlautref17.go:89
                         R (.string (⟨#[]⟩ : ByteArray)) w))))))))))))))))))))))))))))))))))))))))))))))))
  ∧ (
   (decide ((s.size : Int) ≥ (2 : Int))) = false → (
   -- umlautref17.go:85
   ∃ c_6 : UInt8,
   (0 ≤ (0 : Int) ∧ s[(0 : Int).toNat]? = some c_6) ∧ (
   -- umlautref17.go:86
   (
    ((c_6.toNat : Int) == (40 : Int)) = true → (
    (
     ((c_6.toNat : Int) == (40 : Int)) = true → (
     -- umlautref17.go:87
     (0 ≤ (1 : Int) ∧ (1 : Int) ≤ (s.size : Int)) ∧ (
     R (.string (s.extract 0 (1 : Int).toNat)) w)))
    ∧ (
     ((c_6.toNat : Int) == (40 : Int)) = false → (
     -- umlautref17.go:89
     R (.string (⟨#[]⟩ : ByteArray)) w))))
   ∧ (
    ((c_6.toNat : Int) == (40 : Int)) = false → (
    -- umlautref17.go:86
    (
     ((c_6.toNat : Int) == (41 : Int)) = true → (
     (
      ((c_6.toNat : Int) == (41 : Int)) = true → (
      -- umlautref17.go:87
      (0 ≤ (1 : Int) ∧ (1 : Int) ≤ (s.size : Int)) ∧ (
      R (.string (s.extract 0 (1 : Int).toNat)) w)))
     ∧ (
      ((c_6.toNat : Int) == (41 : Int)) = false → (
      -- umlautref17.go:89
      R (.string (⟨#[]⟩ : ByteArray)) w))))
    ∧ (
     ((c_6.toNat : Int) == (41 : Int)) = false → (
     -- umlautref17.go:86
     (
      ((c_6.toNat : Int) == (44 : Int)) = true → (
      (
       ((c_6.toNat : Int) == (44 : Int)) = true → (
       -- umlautref17.go:87
       (0 ≤ (1 : Int) ∧ (1 : Int) ≤ (s.size : Int)) ∧ (
       R (.string (s.extract 0 (1 : Int).toNat)) w)))
      ∧ (
       ((c_6.toNat : Int) == (44 : Int)) = false → (
       -- umlautref17.go:89
       R (.string (⟨#[]⟩ : ByteArray)) w))))
     ∧ (
      ((c_6.toNat : Int) == (44 : Int)) = false → (
      -- umlautref17.go:86
      (
       ((c_6.toNat : Int) == (46 : Int)) = true → (
       (
        ((c_6.toNat : Int) == (46 : Int)) = true → (
        -- umlautref17.go:87
        (0 ≤ (1 : Int) ∧ (1 : Int) ≤ (s.size : Int)) ∧ (
        R (.string (s.extract 0 (1 : Int).toNat)) w)))
       ∧ (
        ((c_6.toNat : Int) == (46 : Int)) = false → (
        -- umlautref17.go:89
        R (.string (⟨#[]⟩ : ByteArray)) w))))
      ∧ (
       ((c_6.toNat : Int) == (46 : Int)) = false → (
       -- umlautref17.go:86
       (
        ((c_6.toNat : Int) == (59 : Int)) = true → (
        (
         ((c_6.toNat : Int) == (59 : Int)) = true → (
         -- umlautref17.go:87
         (0 ≤ (1 : Int) ∧ (1 : Int) ≤ (s.size : Int)) ∧ (
         R (.string (s.extract 0 (1 : Int).toNat)) w)))
        ∧ (
         ((c_6.toNat : Int) == (59 : Int)) = false → (
         -- umlautref17.go:89
         R (.string (⟨#[]⟩ : ByteArray)) w))))
       ∧ (
        ((c_6.toNat : Int) == (59 : Int)) = false → (
        -- umlautref17.go:86
        (
         ((c_6.toNat : Int) == (42 : Int)) = true → (
         (
          ((c_6.toNat : Int) == (42 : Int)) = true → (
          -- umlautref17.go:87
          (0 ≤ (1 : Int) ∧ (1 : Int) ≤ (s.size : Int)) ∧ (
          R (.string (s.extract 0 (1 : Int).toNat)) w)))
         ∧ (
          ((c_6.toNat : Int) == (42 : Int)) = false → (
          -- umlautref17.go:89
          R (.string (⟨#[]⟩ : ByteArray)) w))))
        ∧ (
         ((c_6.toNat : Int) == (42 : Int)) = false → (
         -- umlautref17.go:86
         (
          ((c_6.toNat : Int) == (61 : Int)) = true → (
          (
           ((c_6.toNat : Int) == (61 : Int)) = true → (
           -- umlautref17.go:87
           (0 ≤ (1 : Int) ∧ (1 : Int) ≤ (s.size : Int)) ∧ (
           R (.string (s.extract 0 (1 : Int).toNat)) w)))
          ∧ (
           ((c_6.toNat : Int) == (61 : Int)) = false → (
           -- umlautref17.go:89
           R (.string (⟨#[]⟩ : ByteArray)) w))))
         ∧ (
          ((c_6.toNat : Int) == (61 : Int)) = false → (
          -- umlautref17.go:86
          (
           ((c_6.toNat : Int) == (60 : Int)) = true → (
           (
            ((c_6.toNat : Int) == (60 : Int)) = true → (
            -- umlautref17.go:87
            (0 ≤ (1 : Int) ∧ (1 : Int) ≤ (s.size : Int)) ∧ (
            R (.string (s.extract 0 (1 : Int).toNat)) w)))
           ∧ (
            ((c_6.toNat : Int) == (60 : Int)) = false → (
            -- umlautref17.go:89
            R (.string (⟨#[]⟩ : ByteArray)) w))))
          ∧ (
           ((c_6.toNat : Int) == (60 : Int)) = false → (
           -- umlautref17.go:86
           (
            ((c_6.toNat : Int) == (62 : Int)) = true → (
            (
             ((c_6.toNat : Int) == (62 : Int)) = true → (
             -- umlautref17.go:87
             (0 ≤ (1 : Int) ∧ (1 : Int) ≤ (s.size : Int)) ∧ (
             R (.string (s.extract 0 (1 : Int).toNat)) w)))
            ∧ (
             ((c_6.toNat : Int) == (62 : Int)) = false → (
             -- umlautref17.go:89
             R (.string (⟨#[]⟩ : ByteArray)) w))))
           ∧ (
            ((c_6.toNat : Int) == (62 : Int)) = false → (
            -- umlautref17.go:86
            (
             ((c_6.toNat : Int) == (43 : Int)) = true → (
             (
              ((c_6.toNat : Int) == (43 : Int)) = true → (
              -- umlautref17.go:87
              (0 ≤ (1 : Int) ∧ (1 : Int) ≤ (s.size : Int)) ∧ (
              R (.string (s.extract 0 (1 : Int).toNat)) w)))
             ∧ (
              ((c_6.toNat : Int) == (43 : Int)) = false → (
              -- umlautref17.go:89
              R (.string (⟨#[]⟩ : ByteArray)) w))))
            ∧ (
             ((c_6.toNat : Int) == (43 : Int)) = false → (
             -- umlautref17.go:86
             (
              ((c_6.toNat : Int) == (45 : Int)) = true → (
              (
               ((c_6.toNat : Int) == (45 : Int)) = true → (
               -- umlautref17.go:87
               (0 ≤ (1 : Int) ∧ (1 : Int) ≤ (s.size : Int)) ∧ (
               R (.string (s.extract 0 (1 : Int).toNat)) w)))
              ∧ (
               ((c_6.toNat : Int) == (45 : Int)) = false → (
               -- umlautref17.go:89
               R (.string (⟨#[]⟩ : ByteArray)) w))))
             ∧ (
              ((c_6.toNat : Int) == (45 : Int)) = false → (
              -- umlautref17.go:86
              (
               ((c_6.toNat : Int) == (47 : Int)) = true → (
               (
                ((c_6.toNat : Int) == (47 : Int)) = true → (
                -- umlautref17.go:87
                (0 ≤ (1 : Int) ∧ (1 : Int) ≤ (s.size : Int)) ∧ (
                R (.string (s.extract 0 (1 : Int).toNat)) w)))
               ∧ (
                ((c_6.toNat : Int) == (47 : Int)) = false → (
                -- umlautref17.go:89
                R (.string (⟨#[]⟩ : ByteArray)) w))))
              ∧ (
               ((c_6.toNat : Int) == (47 : Int)) = false → (
               -- umlautref17.go:86
               (
                ((c_6.toNat : Int) == (37 : Int)) = true → (
                (
                 ((c_6.toNat : Int) == (37 : Int)) = true → (
                 -- umlautref17.go:87
                 (0 ≤ (1 : Int) ∧ (1 : Int) ≤ (s.size : Int)) ∧ (
                 R (.string (s.extract 0 (1 : Int).toNat)) w)))
                ∧ (
                 ((c_6.toNat : Int) == (37 : Int)) = false → (
                 -- umlautref17.go:89
                 R (.string (⟨#[]⟩ : ByteArray)) w))))
               ∧ (
                ((c_6.toNat : Int) == (37 : Int)) = false → (
                -- umlautref17.go:86
                (
                 ((c_6.toNat : Int) == (38 : Int)) = true → (
                 (
                  ((c_6.toNat : Int) == (38 : Int)) = true → (
                  -- umlautref17.go:87
                  (0 ≤ (1 : Int) ∧ (1 : Int) ≤ (s.size : Int)) ∧ (
                  R (.string (s.extract 0 (1 : Int).toNat)) w)))
                 ∧ (
                  ((c_6.toNat : Int) == (38 : Int)) = false → (
                  -- umlautref17.go:89
                  R (.string (⟨#[]⟩ : ByteArray)) w))))
                ∧ (
                 ((c_6.toNat : Int) == (38 : Int)) = false → (
                 -- umlautref17.go:86
                 (
                  ((c_6.toNat : Int) == (124 : Int)) = true → (
                  (
                   ((c_6.toNat : Int) == (124 : Int)) = true → (
                   -- umlautref17.go:87
                   (0 ≤ (1 : Int) ∧ (1 : Int) ≤ (s.size : Int)) ∧ (
                   R (.string (s.extract 0 (1 : Int).toNat)) w)))
                  ∧ (
                   ((c_6.toNat : Int) == (124 : Int)) = false → (
                   -- umlautref17.go:89
                   R (.string (⟨#[]⟩ : ByteArray)) w))))
                 ∧ (
                  ((c_6.toNat : Int) == (124 : Int)) = false → (
                  -- umlautref17.go:86
                  (
                   ((c_6.toNat : Int) == (94 : Int)) = true → (
                   -- umlautref17.go:87
                   (0 ≤ (1 : Int) ∧ (1 : Int) ≤ (s.size : Int)) ∧ (
                   R (.string (s.extract 0 (1 : Int).toNat)) w)))
                  ∧ (
                   ((c_6.toNat : Int) == (94 : Int)) = false → (
                   -- umlautref17.go:89
                   R (.string (⟨#[]⟩ : ByteArray)) w)))))))))))))))))))))))))))))))))))
def Sh.ref17_op_h : Vc.H := (.seq (.reg (.p 0 0 (.done 0))) (.seq (.seq (.reg (.p 0 0 (.p 1 0 (.p 2 0 (.done 0))))) (.cond false (.seq (.reg (.p 0 0 (.p 1 0 (.done 0)))) (.block (.seq (.seq (.reg (.p 0 0 (.p 1 0 (.done 0)))) (.cond false (.nil 0) (.seq (.reg (.p 0 0 (.p 1 0 (.done 0)))) (.cond false (.nil 0) (.seq (.reg (.p 0 0 (.p 1 0 (.done 0)))) (.cond false (.nil 0) (.seq (.reg (.p 0 0 (.p 1 0 (.done 0)))) (.cond false (.nil 0) (.seq (.reg (.p 0 0 (.p 1 0 (.done 0)))) (.cond false (.nil 0) (.reg (.p 0 0 (.p 1 0 (.done 0)))))))))))))) (.cond false (.seq (.reg (.p 0 0 (.p 1 0 (.p 2 0 (.done 0))))) (.nil 0)) (.nil 0))))) (.nil 0))) (.seq (.seq (.reg (.p 0 0 (.p 1 0 (.done 0)))) (.block (.seq (.seq (.reg (.p 0 0 (.p 1 0 (.done 0)))) (.cond false (.nil 0) (.seq (.reg (.p 0 0 (.p 1 0 (.done 0)))) (.cond false (.nil 0) (.seq (.reg (.p 0 0 (.p 1 0 (.done 0)))) (.cond false (.nil 0) (.seq (.reg (.p 0 0 (.p 1 0 (.done 0)))) (.cond false (.nil 0) (.seq (.reg (.p 0 0 (.p 1 0 (.done 0)))) (.cond false (.nil 0) (.seq (.reg (.p 0 0 (.p 1 0 (.done 0)))) (.cond false (.nil 0) (.seq (.reg (.p 0 0 (.p 1 0 (.done 0)))) (.cond false (.nil 0) (.seq (.reg (.p 0 0 (.p 1 0 (.done 0)))) (.cond false (.nil 0) (.seq (.reg (.p 0 0 (.p 1 0 (.done 0)))) (.cond false (.nil 0) (.seq (.reg (.p 0 0 (.p 1 0 (.done 0)))) (.cond false (.nil 0) (.seq (.reg (.p 0 0 (.p 1 0 (.done 0)))) (.cond false (.nil 0) (.seq (.reg (.p 0 0 (.p 1 0 (.done 0)))) (.cond false (.nil 0) (.seq (.reg (.p 0 0 (.p 1 0 (.done 0)))) (.cond false (.nil 0) (.seq (.reg (.p 0 0 (.p 1 0 (.done 0)))) (.cond false (.nil 0) (.seq (.reg (.p 0 0 (.p 1 0 (.done 0)))) (.cond false (.nil 0) (.reg (.p 0 0 (.p 1 0 (.done 0)))))))))))))))))))))))))))))))))) (.cond false (.seq (.reg (.p 0 0 (.p 1 0 (.p 2 0 (.done 0))))) (.nil 0)) (.nil 0))))) (.seq (.reg (.p 0 0 (.done 0))) (.nil 0)))))
theorem Sh.ref17_op_eq (s : ByteArray) (w : World) (R : Value → World → Prop) : Sh.ref17_op s w R = Vc.vcFn Try.prog tab okF Try.f51 Sh.ref17_op_h [.string s] w R := by kernel_rfl
theorem Sh.ref17_op_calls (s : ByteArray) {w : World} {R : Value → World → Prop} (h : Sh.ref17_op s w R) : Calls Try.prog 51 #[.string s] w fun e w' => ∃ v, e = .returned v ∧ R v w' :=
  Vc.fn_calls mixed tabOk okF_ok Try.func51 (by kernel_rfl) (by kernel_rfl) (by rw [← Sh.ref17_op_eq s]; exact h)

def Sh.ref17_Words  (w : World) (R : Value → World → Prop) : Prop :=
  -- umlautref17.go:26
  -- umlautref17.go:27
  ∀ w_1 : World,
  w_1 = w.alloc (.cells #[.string (⟨#[65, 76, 76]⟩ : ByteArray), .string (⟨#[65, 78, 68]⟩ : ByteArray), .string (⟨#[65, 83]⟩ : ByteArray), .string (⟨#[65, 83, 67]⟩ : ByteArray), .string (⟨#[66, 65, 67, 75]⟩ : ByteArray), .string (⟨#[66, 69, 84, 87, 69, 69, 78]⟩ : ByteArray), .string (⟨#[66, 79, 79, 76]⟩ : ByteArray), .string (⟨#[66, 89]⟩ : ByteArray), .string (⟨#[67, 65, 83, 84]⟩ : ByteArray), .string (⟨#[67, 79, 76, 76, 65, 84, 69]⟩ : ByteArray), .string (⟨#[67, 79, 76, 76, 65, 84, 73, 79, 78]⟩ : ByteArray), .string (⟨#[67, 82, 69, 65, 84, 69]⟩ : ByteArray), .string (⟨#[68, 69, 76, 69, 84, 69]⟩ : ByteArray), .string (⟨#[68, 69, 83, 67]⟩ : ByteArray), .string (⟨#[68, 73, 83, 84, 73, 78, 67, 84]⟩ : ByteArray), .string (⟨#[68, 82, 79, 80]⟩ : ByteArray), .string (⟨#[69, 83, 67, 65, 80, 69]⟩ : ByteArray), .string (⟨#[70, 65, 76, 83, 69]⟩ : ByteArray), .string (⟨#[70, 82, 79, 77]⟩ : ByteArray), .string (⟨#[71, 82, 79, 85, 80]⟩ : ByteArray), .string (⟨#[72, 65, 86, 73, 78, 71]⟩ : ByteArray), .string (⟨#[73, 78]⟩ : ByteArray), .string (⟨#[73, 78, 68, 69, 88]⟩ : ByteArray), .string (⟨#[73, 78, 83, 69, 82, 84]⟩ : ByteArray), .string (⟨#[73, 78, 84]⟩ : ByteArray), .string (⟨#[73, 78, 84, 79]⟩ : ByteArray), .string (⟨#[73, 83]⟩ : ByteArray), .string (⟨#[74, 79, 73, 78]⟩ : ByteArray), .string (⟨#[76, 69, 86, 69, 76]⟩ : ByteArray), .string (⟨#[76, 73, 75, 69]⟩ : ByteArray), .string (⟨#[76, 73, 77, 73, 84]⟩ : ByteArray), .string (⟨#[78, 79, 84]⟩ : ByteArray), .string (⟨#[78, 85, 76, 76]⟩ : ByteArray), .string (⟨#[79, 70, 70, 83, 69, 84]⟩ : ByteArray), .string (⟨#[79, 78]⟩ : ByteArray), .string (⟨#[79, 82]⟩ : ByteArray), .string (⟨#[79, 82, 68, 69, 82]⟩ : ByteArray), .string (⟨#[83, 69, 76, 69, 67, 84]⟩ : ByteArray), .string (⟨#[83, 69, 84]⟩ : ByteArray), .string (⟨#[83, 72, 73, 70, 84]⟩ : ByteArray), .string (⟨#[84, 65, 66, 76, 69]⟩ : ByteArray), .string (⟨#[84, 69, 88, 84]⟩ : ByteArray), .string (⟨#[84, 82, 85, 69]⟩ : ByteArray), .string (⟨#[85, 78, 73, 81, 85, 69]⟩ : ByteArray), .string (⟨#[85, 80, 68, 65, 84, 69]⟩ : ByteArray), .string (⟨#[86, 65, 76, 85, 69, 83]⟩ : ByteArray), .string (⟨#[87, 72, 69, 82, 69]⟩ : ByteArray), .string (⟨#[88, 79, 82]⟩ : ByteArray)] 9) → (
  R (.slice (some (⟨w.heap.size, 0, none⟩ : Addr)) 48 48) w_1)
def Sh.ref17_Words_h : Vc.H := (.seq (.reg (.p 0 0 (.done 0))) (.seq (.reg (.o 0 0 (.p 1 0 (.done 0)))) (.nil 0)))
theorem Sh.ref17_Words_eq  (w : World) (R : Value → World → Prop) : Sh.ref17_Words  w R = Vc.vcFn Try.prog tab okF Try.f59 Sh.ref17_Words_h [] w R := by kernel_rfl
theorem Sh.ref17_Words_calls  {w : World} {R : Value → World → Prop} (h : Sh.ref17_Words  w R) : Calls Try.prog 59 #[] w fun e w' => ∃ v, e = .returned v ∧ R v w' :=
  Vc.fn_calls mixed tabOk okF_ok Try.func59 (by kernel_rfl) (by kernel_rfl) (by rw [← Sh.ref17_Words_eq ]; exact h)

end Go.Proofs.Ytjlkgedcpmoehaa
