/- The verification conditions of functions of the program, as Go.Vc reckons them: by gen.py. -/
import Derived.Test.YtjlkgedcpmoehaaTab
set_option linter.unusedVariables false
set_option maxRecDepth 100000
namespace Go.Proofs.Ytjlkgedcpmoehaa
open Go
open Go.Proofs

def Sh.law22_PlanParts (n_Kind : Int) (n_Op : Int) (n_S : ByteArray) (n_T : ByteArray) (n_N : Int) (n_L : Option Addr) (n_L_len n_L_cap : Nat) (w : World) (R : Value → World → Prop) : Prop :=
  -- law.go:37
  ∀ w_1 : World,
  w_1 = w.alloc (.cells #[.int .i64 n_Kind, .int .i64 n_Op, .string n_S, .string n_T, .int .i64 n_N, .slice n_L n_L_len n_L_cap] 24) → (
  -- law.go:38
  ∃ t10_Kind : Int,
  w_1.cell? (⟨w.heap.size, 0, none⟩ : Addr) = some (.int .i64 t10_Kind) ∧ (
  ∃ t10_Op : Int,
  w_1.cell? ((⟨w.heap.size, 0, none⟩ : Addr).add 1) = some (.int .i64 t10_Op) ∧ (
  ∃ t10_S : ByteArray,
  w_1.cell? ((⟨w.heap.size, 0, none⟩ : Addr).add 2) = some (.string t10_S) ∧ (
  ∃ t10_T : ByteArray,
  w_1.cell? ((⟨w.heap.size, 0, none⟩ : Addr).add 3) = some (.string t10_T) ∧ (
  ∃ t10_N : Int,
  w_1.cell? ((⟨w.heap.size, 0, none⟩ : Addr).add 4) = some (.int .i64 t10_N) ∧ (
  ∃ (t10_L : Option Addr) (t10_L_len t10_L_cap : Nat),
  w_1.cell? ((⟨w.heap.size, 0, none⟩ : Addr).add 5) = some (.slice t10_L t10_L_len t10_L_cap) ∧ (
  Calls Try.prog 4 #[.agg #[.int .i64 t10_Kind, .int .i64 t10_Op, .string t10_S, .string t10_T, .int .i64 t10_N, .slice t10_L t10_L_len t10_L_cap], .int .i64 (0 : Int)] w_1 fun (e : Ending) (w_2 : World) => (
  ∃ r_Small : Bool,
  e = .returned (.bool r_Small) ∧ (
  (
   (!r_Small) = true → (
   -- law.go:39
   Calls Try.prog 5 #[] w_2 fun (e : Ending) (w_3 : World) => (
   ∃ r_awake : Bool,
   e = .returned (.bool r_awake) ∧ (
   R (.bool r_awake) w_3))))
  ∧ (
   (!r_Small) = false → (
   -- law.go:41
   ∃ t15_Kind : Int,
   w_2.cell? (⟨w.heap.size, 0, none⟩ : Addr) = some (.int .i64 t15_Kind) ∧ (
   ∃ t15_Op : Int,
   w_2.cell? ((⟨w.heap.size, 0, none⟩ : Addr).add 1) = some (.int .i64 t15_Op) ∧ (
   ∃ t15_S : ByteArray,
   w_2.cell? ((⟨w.heap.size, 0, none⟩ : Addr).add 2) = some (.string t15_S) ∧ (
   ∃ t15_T : ByteArray,
   w_2.cell? ((⟨w.heap.size, 0, none⟩ : Addr).add 3) = some (.string t15_T) ∧ (
   ∃ t15_N : Int,
   w_2.cell? ((⟨w.heap.size, 0, none⟩ : Addr).add 4) = some (.int .i64 t15_N) ∧ (
   ∃ (t15_L : Option Addr) (t15_L_len t15_L_cap : Nat),
   w_2.cell? ((⟨w.heap.size, 0, none⟩ : Addr).add 5) = some (.slice t15_L t15_L_len t15_L_cap) ∧ (
   Calls Try.prog 6 #[.agg #[.int .i64 t15_Kind, .int .i64 t15_Op, .string t15_S, .string t15_T, .int .i64 t15_N, .slice t15_L t15_L_len t15_L_cap]] w_2 fun (e : Ending) (w_4 : World) => (
   ∃ r_Showa : ByteArray,
   ∃ r_Showb : Bool,
   e = .returned (.tuple #[.string r_Showa, .bool r_Showb]) ∧ (
   -- law.go:41
   (
    (!r_Showb) = true → (
    -- law.go:42
    Calls Try.prog 5 #[] w_4 fun (e : Ending) (w_5 : World) => (
    ∃ r_awake_1 : Bool,
    e = .returned (.bool r_awake_1) ∧ (
    R (.bool r_awake_1) w_5))))
   ∧ (
    (!r_Showb) = false → (
    -- law.go:44
    Calls Try.prog 7 #[.pointer (some (⟨w.heap.size, 0, none⟩ : Addr))] w_4 fun (e : Ending) (w_6 : World) => (
    ∃ (r_Conjuncts : Option Addr) (r_Conjuncts_len r_Conjuncts_cap : Nat),
    e = .returned (.slice r_Conjuncts r_Conjuncts_len r_Conjuncts_cap) ∧ (
    -- law.go:45
    ∃ t24_Kind : Int,
    w_6.cell? (⟨w.heap.size, 0, none⟩ : Addr) = some (.int .i64 t24_Kind) ∧ (
    ∃ t24_Op : Int,
    w_6.cell? ((⟨w.heap.size, 0, none⟩ : Addr).add 1) = some (.int .i64 t24_Op) ∧ (
    ∃ t24_S : ByteArray,
    w_6.cell? ((⟨w.heap.size, 0, none⟩ : Addr).add 2) = some (.string t24_S) ∧ (
    ∃ t24_T : ByteArray,
    w_6.cell? ((⟨w.heap.size, 0, none⟩ : Addr).add 3) = some (.string t24_T) ∧ (
    ∃ t24_N : Int,
    w_6.cell? ((⟨w.heap.size, 0, none⟩ : Addr).add 4) = some (.int .i64 t24_N) ∧ (
    ∃ (t24_L : Option Addr) (t24_L_len t24_L_cap : Nat),
    w_6.cell? ((⟨w.heap.size, 0, none⟩ : Addr).add 5) = some (.slice t24_L t24_L_len t24_L_cap) ∧ (
    Calls Try.prog 9 #[.agg #[.int .i64 t24_Kind, .int .i64 t24_Op, .string t24_S, .string t24_T, .int .i64 t24_N, .slice t24_L t24_L_len t24_L_cap]] w_6 fun (e : Ending) (w_7 : World) => (
    ∃ (r_conjuncts : Option Addr) (r_conjuncts_len r_conjuncts_cap : Nat),
    e = .returned (.slice r_conjuncts r_conjuncts_len r_conjuncts_cap) ∧ (
    Calls Try.prog 8 #[.slice r_Conjuncts r_Conjuncts_len r_Conjuncts_cap, .slice r_conjuncts r_conjuncts_len r_conjuncts_cap] w_7 fun (e : Ending) (w_8 : World) => (
    ∃ r_SameNodes : Bool,
    e = .returned (.bool r_SameNodes) ∧ (
    (
     (!r_SameNodes) = true → (
     -- law.go:46
     R (.bool false) w_8))
    ∧ (
     (!r_SameNodes) = false → (
     -- law.go:48
     Calls Try.prog 10 #[.slice r_Conjuncts r_Conjuncts_len r_Conjuncts_cap] w_8 fun (e : Ending) (w_9 : World) => (
     ∃ r_Join : Option Addr,
     e = .returned (.pointer r_Join) ∧ (
     -- law.go:49
     (
      r_Join.isNone = true → (
      -- law.go:50
      R (.bool false) w_9))
     ∧ (
      r_Join.isNone = false → (
      (!r_Join.isNone) = true ∧ (
      Calls Try.prog 7 #[.pointer r_Join] w_9 fun (e : Ending) (w_10 : World) => (
      ∃ (r_Conjuncts_1 : Option Addr) (r_Conjuncts_len_1 r_Conjuncts_cap_1 : Nat),
      e = .returned (.slice r_Conjuncts_1 r_Conjuncts_len_1 r_Conjuncts_cap_1) ∧ (
      Calls Try.prog 8 #[.slice r_Conjuncts_1 r_Conjuncts_len_1 r_Conjuncts_cap_1, .slice r_Conjuncts r_Conjuncts_len r_Conjuncts_cap] w_10 fun (e : Ending) (w_11 : World) => (
      ∃ r_SameNodes_1 : Bool,
      e = .returned (.bool r_SameNodes_1) ∧ (
      (
       (!r_SameNodes_1) = true → (
       -- law.go:50
       R (.bool false) w_11))
      ∧ (
       (!r_SameNodes_1) = false → (
       -- law.go:52
       -- CUT 44: k
       ∃ J : Int → World → Prop,
       (
        -- LOOP 45: k
        ∃ (I : Int → World → Prop) (μ : Int → World → Nat),
        (
         I (0 : Int) w_11)
        ∧ (
         ∀ (k_1 : Int),
         ∀ w_12 : World,
         I k_1 w_12 → (
         -- law.go:53
         ((decide (k_1 < ((r_Conjuncts_len : Nat) : Int))) = true → (decide (k_1 < ((r_Conjuncts_len : Nat) : Int))) = true) ∧ (
         ((decide (k_1 < ((r_Conjuncts_len : Nat) : Int))) = true → (decide (k_1 < ((r_Conjuncts_len : Nat) : Int))) = true) ∧ (
         ∃ p : Addr,
         ((decide (k_1 < ((r_Conjuncts_len : Nat) : Int))) = true → r_Conjuncts = some p ∧ (0 ≤ k_1 ∧ k_1 < ((r_Conjuncts_len : Nat) : Int))) ∧ (
         (
          (decide (k_1 < ((r_Conjuncts_len : Nat) : Int))) = true → (
          (decide (k_1 < ((r_Conjuncts_len : Nat) : Int))) = true ∧ (
          ∃ t47_Kind : Int,
          w_12.cell? (p.add (k_1.toNat * 6)) = some (.int .i64 t47_Kind) ∧ (
          ∃ t47_Op : Int,
          w_12.cell? ((p.add (k_1.toNat * 6)).add 1) = some (.int .i64 t47_Op) ∧ (
          ∃ t47_S : ByteArray,
          w_12.cell? ((p.add (k_1.toNat * 6)).add 2) = some (.string t47_S) ∧ (
          ∃ t47_T : ByteArray,
          w_12.cell? ((p.add (k_1.toNat * 6)).add 3) = some (.string t47_T) ∧ (
          ∃ t47_N : Int,
          w_12.cell? ((p.add (k_1.toNat * 6)).add 4) = some (.int .i64 t47_N) ∧ (
          ∃ (t47_L : Option Addr) (t47_L_len t47_L_cap : Nat),
          w_12.cell? ((p.add (k_1.toNat * 6)).add 5) = some (.slice t47_L t47_L_len t47_L_cap) ∧ (
          Calls Try.prog 11 #[.agg #[.int .i64 t47_Kind, .int .i64 t47_Op, .string t47_S, .string t47_T, .int .i64 t47_N, .slice t47_L t47_L_len t47_L_cap]] w_12 fun (e : Ending) (w_13 : World) => (
          ∃ r_Safe : Bool,
          e = .returned (.bool r_Safe) ∧ (
          (
           r_Safe = true → (
           -- law.go:54
           I (IntKind.i64.wrap (k_1 + (1 : Int))) w_13 ∧ μ (IntKind.i64.wrap (k_1 + (1 : Int))) w_13 < μ k_1 w_12))
          ∧ (
           r_Safe = false → (
           J k_1 w_13)))))))))))))
         ∧ (
          (decide (k_1 < ((r_Conjuncts_len : Nat) : Int))) = false → (
          J k_1 w_12))))))))
       ∧ (
        ∀ (k_2 : Int),
        ∀ w_14 : World,
        J k_2 w_14 → (
        -- law.go:56
        ∃ p_1 : Addr,
        r_Conjuncts = some p_1 ∧ (
        (0 ≤ (0 : Int) ∧ (0 : Int) < ((r_Conjuncts_len : Nat) : Int)) ∧ (
        ∃ t54_Kind : Int,
        w_14.cell? (p_1.add ((0 : Int).toNat * 6)) = some (.int .i64 t54_Kind) ∧ (
        ∃ t54_Op : Int,
        w_14.cell? ((p_1.add ((0 : Int).toNat * 6)).add 1) = some (.int .i64 t54_Op) ∧ (
        ∃ t54_S : ByteArray,
        w_14.cell? ((p_1.add ((0 : Int).toNat * 6)).add 2) = some (.string t54_S) ∧ (
        ∃ t54_T : ByteArray,
        w_14.cell? ((p_1.add ((0 : Int).toNat * 6)).add 3) = some (.string t54_T) ∧ (
        ∃ t54_N : Int,
        w_14.cell? ((p_1.add ((0 : Int).toNat * 6)).add 4) = some (.int .i64 t54_N) ∧ (
        ∃ (t54_L : Option Addr) (t54_L_len t54_L_cap : Nat),
        w_14.cell? ((p_1.add ((0 : Int).toNat * 6)).add 5) = some (.slice t54_L t54_L_len t54_L_cap) ∧ (
        ∀ b_want : Nat,
        w_14.heap.size ≤ b_want → (
        -- law.go:57
        -- LOOP 60: i, want_Kind, want_Op, want_S, want_T, want_N, want_L
        ∃ (I_1 : Int → Int → Int → ByteArray → ByteArray → Int → Option Addr → Nat → Nat → World → Prop) (μ_1 : Int → Int → Int → ByteArray → ByteArray → Int → Option Addr → Nat → Nat → World → Nat),
        (
         ∀ w_15 : World,
         Vc.Fr (fun k => k = b_want) w_14 w_15 → (
         b_want < w_15.heap.size → (
         I_1 (1 : Int) t54_Kind t54_Op t54_S t54_T t54_N t54_L t54_L_len t54_L_cap w_15)))
        ∧ (
         ∀ (i : Int) (want_Kind : Int) (want_Op : Int) (want_S : ByteArray) (want_T : ByteArray) (want_N : Int) (want_L : Option Addr) (want_L_len want_L_cap : Nat),
         ∀ w_16 : World,
         I_1 i want_Kind want_Op want_S want_T want_N want_L want_L_len want_L_cap w_16 → (
         -- law.go:57
         (
          (decide (i < ((r_Conjuncts_len : Nat) : Int))) = true → (
          -- law.go:58 (draws)
          ∀ w_17 : World,
          Vc.Fr (fun k => k = b_want) w_16 w_17 → (
          b_want < w_17.heap.size → (
          ∃ p_2 : Addr,
          r_Conjuncts = some p_2 ∧ (
          (0 ≤ i ∧ i < ((r_Conjuncts_len : Nat) : Int)) ∧ (
          ∃ t65_Kind : Int,
          w_17.cell? (p_2.add (i.toNat * 6)) = some (.int .i64 t65_Kind) ∧ (
          ∃ t65_Op : Int,
          w_17.cell? ((p_2.add (i.toNat * 6)).add 1) = some (.int .i64 t65_Op) ∧ (
          ∃ t65_S : ByteArray,
          w_17.cell? ((p_2.add (i.toNat * 6)).add 2) = some (.string t65_S) ∧ (
          ∃ t65_T : ByteArray,
          w_17.cell? ((p_2.add (i.toNat * 6)).add 3) = some (.string t65_T) ∧ (
          ∃ t65_N : Int,
          w_17.cell? ((p_2.add (i.toNat * 6)).add 4) = some (.int .i64 t65_N) ∧ (
          ∃ (t65_L : Option Addr) (t65_L_len t65_L_cap : Nat),
          w_17.cell? ((p_2.add (i.toNat * 6)).add 5) = some (.slice t65_L t65_L_len t65_L_cap) ∧ (
          (p_2.add (i.toNat * 6)).block ≠ b_want ∧ (
          ∀ w_18 : World,
          w_18 = w_17.alloc (.cells #[.int .i64 want_Kind, .int .i64 want_Op, .string want_S, .string want_T, .int .i64 want_N, .slice want_L want_L_len want_L_cap, .int .i64 t65_Kind, .int .i64 t65_Op, .string t65_S, .string t65_T, .int .i64 t65_N, .slice t65_L t65_L_len t65_L_cap] 24) → (
          Vc.Fr (fun k => k = b_want) w_17 w_18 ∧ (
          -- law.go:57
          ∀ w_19 : World,
          Vc.Fr (fun k => k = b_want) w_18 w_19 → (
          b_want < w_19.heap.size → (
          I_1 (IntKind.i64.wrap (i + (1 : Int))) (6 : Int) (18 : Int) (⟨#[]⟩ : ByteArray) (⟨#[]⟩ : ByteArray) (0 : Int) (some (⟨w_17.heap.size, 0, none⟩ : Addr)) 2 2 w_19 ∧ μ_1 (IntKind.i64.wrap (i + (1 : Int))) (6 : Int) (18 : Int) (⟨#[]⟩ : ByteArray) (⟨#[]⟩ : ByteArray) (0 : Int) (some (⟨w_17.heap.size, 0, none⟩ : Addr)) 2 2 w_19 < μ_1 i want_Kind want_Op want_S want_T want_N want_L want_L_len want_L_cap w_16)))))))))))))))))
         ∧ (
          (decide (i < ((r_Conjuncts_len : Nat) : Int))) = false → (
          -- law.go:60 (draws)
          ∀ w_20 : World,
          Vc.Fr (fun k => k = b_want) w_16 w_20 → (
          b_want < w_20.heap.size → (
          Calls Try.prog 12 #[.slice r_Conjuncts r_Conjuncts_len r_Conjuncts_cap] w_20 fun (e : Ending) (w_21 : World) => (
          ∃ r_Lead : Int,
          e = .returned (.int .i64 r_Lead) ∧ (
          (b_want < w_20.heap.size → w_21.heap[b_want]? = w_20.heap[b_want]?) ∧ (
          Vc.Fr (fun k => False) w_20 w_21 ∧ (
          ((r_Lead == k_2) = true → (r_Lead == k_2) = true) ∧ (
          ∃ p_3 : Addr,
          ((r_Lead == k_2) = true → r_Join = some p_3) ∧ (
          (
           (r_Lead == k_2) = true → (
           (r_Lead == k_2) = true ∧ (
           ∃ t75_Kind : Int,
           w_21.cell? p_3 = some (.int .i64 t75_Kind) ∧ (
           ∃ t75_Op : Int,
           w_21.cell? (p_3.add 1) = some (.int .i64 t75_Op) ∧ (
           ∃ t75_S : ByteArray,
           w_21.cell? (p_3.add 2) = some (.string t75_S) ∧ (
           ∃ t75_T : ByteArray,
           w_21.cell? (p_3.add 3) = some (.string t75_T) ∧ (
           ∃ t75_N : Int,
           w_21.cell? (p_3.add 4) = some (.int .i64 t75_N) ∧ (
           ∃ (t75_L : Option Addr) (t75_L_len t75_L_cap : Nat),
           w_21.cell? (p_3.add 5) = some (.slice t75_L t75_L_len t75_L_cap) ∧ (
           (r_Lead == k_2) = true ∧ (
           Calls Try.prog 13 #[.agg #[.int .i64 t75_Kind, .int .i64 t75_Op, .string t75_S, .string t75_T, .int .i64 t75_N, .slice t75_L t75_L_len t75_L_cap], .agg #[.int .i64 want_Kind, .int .i64 want_Op, .string want_S, .string want_T, .int .i64 want_N, .slice want_L want_L_len want_L_cap]] w_21 fun (e : Ending) (w_22 : World) => (
           ∃ r_SameNode : Bool,
           e = .returned (.bool r_SameNode) ∧ (
           (b_want < w_21.heap.size → w_22.heap[b_want]? = w_21.heap[b_want]?) ∧ (
           Vc.Fr (fun k => False) w_20 w_22 ∧ (
           (
            r_SameNode = true → (
            Calls Try.prog 5 #[] w_22 fun (e : Ending) (w_23 : World) => (
            ∃ r_awake_2 : Bool,
            e = .returned (.bool r_awake_2) ∧ (
            (b_want < w_22.heap.size → w_23.heap[b_want]? = w_22.heap[b_want]?) ∧ (
            Vc.Fr (fun k => False) w_20 w_23 ∧ (
            R (.bool r_awake_2) w_23))))))
           ∧ (
            r_SameNode = false → (
            R (.bool false) w_22))))))))))))))))
          ∧ (
           (r_Lead == k_2) = false → (
           R (.bool false) w_21)))))))))))))))))))))))))))))))))))))))))))))))))))))))))))))))))))))))
def Sh.law22_PlanParts_h : Vc.H := (.seq (.reg (.o 0 0 (.p 1 0 (.done 0)))) (.seq (.seq (.reg (.o 0 0 (.o 1 0 (.p 2 0 (.done 0))))) (.cond false (.seq (.reg (.o 0 0 (.p 1 0 (.done 0)))) (.nil 0)) (.nil 0))) (.seq (.seq (.reg (.o 0 0 (.o 1 0 (.p 2 0 (.p 3 0 (.p 4 0 (.p 5 0 (.p 6 0 (.done 0))))))))) (.seq (.reg (.p 0 0 (.p 1 0 (.done 0)))) (.cond false (.seq (.reg (.o 0 0 (.p 1 0 (.done 0)))) (.nil 0)) (.nil 0)))) (.seq (.reg (.o 0 0 (.p 1 0 (.done 0)))) (.seq (.seq (.reg (.p 0 0 (.o 1 0 (.o 2 0 (.o 3 0 (.p 4 0 (.done 0))))))) (.cond false (.seq (.reg (.p 0 0 (.done 0))) (.nil 0)) (.nil 0))) (.seq (.reg (.p 0 0 (.o 1 0 (.p 2 0 (.done 0))))) (.seq (.seq (.reg (.p 0 0 (.p 1 0 (.p 2 0 (.p 3 0 (.s 32 (.sk 4 (.sk 5 (.sk 6 (.sk 7 (.p 8 1 (.done 0)))))) (.o 4 0 (.p 5 8 (.o 6 0 (.p 7 8 (.p 8 1 (.done 1)))))))))))) (.alt (.cond true (.seq (.reg (.p 0 0 (.done 0))) (.nil 0)) (.nil 0)) (.cond false (.seq (.reg (.p 0 0 (.done 0))) (.nil 0)) (.nil 0)))) (.seq (.reg (.p 0 0 (.done 0))) (.seq (.cut [((0, 7), .int .i64)] [(0, 39), (0, 40), (0, 41), (0, 42), (0, 43), (0, 44), (0, 45), (0, 46), (0, 47), (0, 48), (0, 49), (0, 50), (0, 51)] 0 (.block (.loop [((0, 7), .int .i64)] [(0, 39), (0, 40), (0, 41), (0, 42), (0, 43), (0, 44), (0, 45), (0, 46), (0, 47), (0, 48), (0, 49), (0, 50), (0, 51)] (.seq (.seq (.reg (.p 0 0 (.p 1 0 (.p 2 0 (.p 3 0 (.p 4 0 (.p 5 0 (.p 6 0 (.p 7 1 (.s 43 (.o 8 0 (.o 9 0 (.p 10 1 (.done 0)))) (.sk 8 (.sk 9 (.p 10 1 (.done 1)))))))))))))) (.alt (.cond false (.nil 0) (.nil 0)) (.cond true (.nil 0) (.nil 0)))) (.block (.reg (.p 0 0 (.p 1 0 (.p 2 0 (.done 0)))))))))) (.seq (.reg (.p 0 0 (.p 1 1 (.o 2 0 (.o 3 1 (.o 4 0 (.done 0))))))) (.seq (.seq (.reg (.p 0 0 (.done 0))) (.block (.loop [((0, 9), .int .i64), ((9, 0), .int .i64), ((9, 1), .int .i64), ((9, 2), .str), ((9, 3), .str), ((9, 4), .int .i64), ((9, 5), .slice)] [(0, 55), (0, 56), (0, 57), (0, 58), (0, 61), (0, 62), (0, 63), (0, 64), (0, 65), (0, 66), (0, 67), (0, 59), (0, 60)] (.seq (.seq (.reg (.p 0 0 (.p 1 0 (.p 2 0 (.p 3 0 (.done 0)))))) (.cond false (.nil 0) (.nil 0))) (.seq (.block (.draw false [8] (.p 1 0 (.p 2 0 (.p 3 1 (.l 4 (.o 0 8 (.o 5 0 (.p 6 0 (.o 7 0 (.done 0))))))))))) (.reg (.p 0 0 (.p 1 0 (.p 2 0 (.done 0)))))))))) (.seq (.draw false [] (.p 0 0 (.p 2 0 (.o 1 0 (.p 3 0 (.p 4 0 (.p 5 0 (.p 6 1 (.p 8 0 (.s 72 (.o 7 0 (.o 9 0 (.p 10 1 (.p 11 0 (.s 79 (.o 12 0 (.p 13 1 (.p 14 0 (.done 0)))) (.sk 12 (.p 13 1 (.p 14 0 (.done 0))))))))) (.sk 7 (.sk 9 (.p 10 1 (.p 11 0 (.sk 12 (.p 13 1 (.p 14 0 (.done 0)))))))))))))))))) (.nil 0)))))))))))))
theorem Sh.law22_PlanParts_eq (n_Kind : Int) (n_Op : Int) (n_S : ByteArray) (n_T : ByteArray) (n_N : Int) (n_L : Option Addr) (n_L_len n_L_cap : Nat) (w : World) (R : Value → World → Prop) : Sh.law22_PlanParts n_Kind n_Op n_S n_T n_N n_L n_L_len n_L_cap w R = Vc.vcFn Try.prog tab okF Try.f3 Sh.law22_PlanParts_h [.agg #[.int .i64 n_Kind, .int .i64 n_Op, .string n_S, .string n_T, .int .i64 n_N, .slice n_L n_L_len n_L_cap]] w R := by kernel_rfl
theorem Sh.law22_PlanParts_calls (n_Kind : Int) (n_Op : Int) (n_S : ByteArray) (n_T : ByteArray) (n_N : Int) (n_L : Option Addr) (n_L_len n_L_cap : Nat) {w : World} {R : Value → World → Prop} (h : Sh.law22_PlanParts n_Kind n_Op n_S n_T n_N n_L n_L_len n_L_cap w R) : Calls Try.prog 3 #[.agg #[.int .i64 n_Kind, .int .i64 n_Op, .string n_S, .string n_T, .int .i64 n_N, .slice n_L n_L_len n_L_cap]] w fun e w' => ∃ v, e = .returned v ∧ R v w' :=
  Vc.fn_calls mixed tabOk okF_ok Try.func3 (by kernel_rfl) (by kernel_rfl) (by rw [← Sh.law22_PlanParts_eq n_Kind n_Op n_S n_T n_N n_L n_L_len n_L_cap]; exact h)

def Sh.law18_Small (n_Kind : Int) (n_Op : Int) (n_S : ByteArray) (n_T : ByteArray) (n_N : Int) (n_L : Option Addr) (n_L_len n_L_cap : Nat) (deep : Int) (w : World) (R : Value → World → Prop) : Prop :=
  -- law.go:20
  ∀ b_n : Nat,
  w.heap.size ≤ b_n → (
  -- law.go:21
  ∀ w_1 : World,
  Vc.Fr (fun k => k = b_n) w w_1 → (
  b_n < w_1.heap.size → (
  ∀ w_2 : World,
  w_2 = w_1.alloc (.cells #[.int .i64 (0 : Int)] 3) → (
  (⟨w_1.heap.size, 0, none⟩ : Addr).block ≠ b_n ∧ (
  (w_2.cell? (⟨w_1.heap.size, 0, none⟩ : Addr)).isSome = true ∧ (
  w_2.frozen? (⟨w_1.heap.size, 0, none⟩ : Addr) = false ∧ (
  -- law.go:22
  Calls Try.prog 14 #[.agg #[.int .i64 n_Kind, .int .i64 n_Op, .string n_S, .string n_T, .int .i64 n_N, .slice n_L n_L_len n_L_cap], .int .i64 deep, .pointer (some (⟨w_1.heap.size, 0, none⟩ : Addr))] (w_2.setCell (⟨w_1.heap.size, 0, none⟩ : Addr) (.int .i64 (300 : Int))) fun (e : Ending) (w_3 : World) => (
  ∃ r_small : Bool,
  e = .returned (.bool r_small) ∧ (
  (b_n < (w_2.setCell (⟨w_1.heap.size, 0, none⟩ : Addr) (.int .i64 (300 : Int))).heap.size → w_3.heap[b_n]? = (w_2.setCell (⟨w_1.heap.size, 0, none⟩ : Addr) (.int .i64 (300 : Int))).heap[b_n]?) ∧ (
  R (.bool r_small) w_3))))))))))
def Sh.law18_Small_h : Vc.H := (.seq (.reg (.o 0 1 (.p 1 0 (.done 0)))) (.seq (.reg (.o 0 0 (.o 1 0 (.done 0)))) (.seq (.reg (.p 0 0 (.p 1 0 (.o 2 0 (.p 3 0 (.done 0)))))) (.nil 0))))
theorem Sh.law18_Small_eq (n_Kind : Int) (n_Op : Int) (n_S : ByteArray) (n_T : ByteArray) (n_N : Int) (n_L : Option Addr) (n_L_len n_L_cap : Nat) (deep : Int) (w : World) (R : Value → World → Prop) : Sh.law18_Small n_Kind n_Op n_S n_T n_N n_L n_L_len n_L_cap deep w R = Vc.vcFn Try.prog tab okF Try.f4 Sh.law18_Small_h [.agg #[.int .i64 n_Kind, .int .i64 n_Op, .string n_S, .string n_T, .int .i64 n_N, .slice n_L n_L_len n_L_cap], .int .i64 deep] w R := by kernel_rfl
theorem Sh.law18_Small_calls (n_Kind : Int) (n_Op : Int) (n_S : ByteArray) (n_T : ByteArray) (n_N : Int) (n_L : Option Addr) (n_L_len n_L_cap : Nat) (deep : Int) {w : World} {R : Value → World → Prop} (h : Sh.law18_Small n_Kind n_Op n_S n_T n_N n_L n_L_len n_L_cap deep w R) : Calls Try.prog 4 #[.agg #[.int .i64 n_Kind, .int .i64 n_Op, .string n_S, .string n_T, .int .i64 n_N, .slice n_L n_L_len n_L_cap], .int .i64 deep] w fun e w' => ∃ v, e = .returned v ∧ R v w' :=
  Vc.fn_calls mixed tabOk okF_ok Try.func4 (by kernel_rfl) (by kernel_rfl) (by rw [← Sh.law18_Small_eq n_Kind n_Op n_S n_T n_N n_L n_L_len n_L_cap deep]; exact h)

def Sh.law22_awake  (w : World) (R : Value → World → Prop) : Prop :=
  -- law.go:20
  -- law.go:21
  ∀ b_a : Nat,
  w.heap.size ≤ b_a → (
  ∀ b_b : Nat,
  w.heap.size ≤ b_b → (
  b_b ≠ b_a → (
  -- law.go:22
  ∀ w_1 : World,
  Vc.Fr (fun k => k = b_b ∨ k = b_a) w w_1 → (
  b_b < w_1.heap.size → (
  b_a < w_1.heap.size → (
  ∀ w_2 : World,
  w_2 = w_1.alloc (.cells #[.int .i64 (4 : Int), .int .i64 (0 : Int), .string (⟨#[97]⟩ : ByteArray), .string (⟨#[]⟩ : ByteArray), .int .i64 (0 : Int), .slice none 0 0, .int .i64 (1 : Int), .int .i64 (0 : Int), .string (⟨#[]⟩ : ByteArray), .string (⟨#[]⟩ : ByteArray), .int .i64 (0 : Int), .slice none 0 0] 24) → (
  ∀ w_3 : World,
  w_3 = w_2.alloc (.cells #[.int .i64 (0 : Int), .int .i64 (0 : Int), .string (⟨#[]⟩ : ByteArray), .string (⟨#[]⟩ : ByteArray), .int .i64 (0 : Int), .slice none 0 0] 24) → (
  (⟨w_2.heap.size, 0, none⟩ : Addr).block ≠ b_b ∧ (
  (⟨w_2.heap.size, 0, none⟩ : Addr).block ≠ b_a ∧ (
  (w_3.cell? (⟨w_2.heap.size, 0, none⟩ : Addr)).isSome = true ∧ (
  w_3.frozen? (⟨w_2.heap.size, 0, none⟩ : Addr) = false ∧ (
  ((w_3.setCell (⟨w_2.heap.size, 0, none⟩ : Addr) (.int .i64 (6 : Int))).cell? ((⟨w_2.heap.size, 0, none⟩ : Addr).add 1)).isSome = true ∧ (
  (w_3.setCell (⟨w_2.heap.size, 0, none⟩ : Addr) (.int .i64 (6 : Int))).frozen? ((⟨w_2.heap.size, 0, none⟩ : Addr).add 1) = false ∧ (
  (((w_3.setCell (⟨w_2.heap.size, 0, none⟩ : Addr) (.int .i64 (6 : Int))).setCell ((⟨w_2.heap.size, 0, none⟩ : Addr).add 1) (.int .i64 (18 : Int))).cell? ((⟨w_2.heap.size, 0, none⟩ : Addr).add 2)).isSome = true ∧ (
  ((w_3.setCell (⟨w_2.heap.size, 0, none⟩ : Addr) (.int .i64 (6 : Int))).setCell ((⟨w_2.heap.size, 0, none⟩ : Addr).add 1) (.int .i64 (18 : Int))).frozen? ((⟨w_2.heap.size, 0, none⟩ : Addr).add 2) = false ∧ (
  ((((w_3.setCell (⟨w_2.heap.size, 0, none⟩ : Addr) (.int .i64 (6 : Int))).setCell ((⟨w_2.heap.size, 0, none⟩ : Addr).add 1) (.int .i64 (18 : Int))).setCell ((⟨w_2.heap.size, 0, none⟩ : Addr).add 2) (.string (⟨#[]⟩ : ByteArray))).cell? ((⟨w_2.heap.size, 0, none⟩ : Addr).add 3)).isSome = true ∧ (
  (((w_3.setCell (⟨w_2.heap.size, 0, none⟩ : Addr) (.int .i64 (6 : Int))).setCell ((⟨w_2.heap.size, 0, none⟩ : Addr).add 1) (.int .i64 (18 : Int))).setCell ((⟨w_2.heap.size, 0, none⟩ : Addr).add 2) (.string (⟨#[]⟩ : ByteArray))).frozen? ((⟨w_2.heap.size, 0, none⟩ : Addr).add 3) = false ∧ (
  (((((w_3.setCell (⟨w_2.heap.size, 0, none⟩ : Addr) (.int .i64 (6 : Int))).setCell ((⟨w_2.heap.size, 0, none⟩ : Addr).add 1) (.int .i64 (18 : Int))).setCell ((⟨w_2.heap.size, 0, none⟩ : Addr).add 2) (.string (⟨#[]⟩ : ByteArray))).setCell ((⟨w_2.heap.size, 0, none⟩ : Addr).add 3) (.string (⟨#[]⟩ : ByteArray))).cell? ((⟨w_2.heap.size, 0, none⟩ : Addr).add 4)).isSome = true ∧ (
  ((((w_3.setCell (⟨w_2.heap.size, 0, none⟩ : Addr) (.int .i64 (6 : Int))).setCell ((⟨w_2.heap.size, 0, none⟩ : Addr).add 1) (.int .i64 (18 : Int))).setCell ((⟨w_2.heap.size, 0, none⟩ : Addr).add 2) (.string (⟨#[]⟩ : ByteArray))).setCell ((⟨w_2.heap.size, 0, none⟩ : Addr).add 3) (.string (⟨#[]⟩ : ByteArray))).frozen? ((⟨w_2.heap.size, 0, none⟩ : Addr).add 4) = false ∧ (
  ((((((w_3.setCell (⟨w_2.heap.size, 0, none⟩ : Addr) (.int .i64 (6 : Int))).setCell ((⟨w_2.heap.size, 0, none⟩ : Addr).add 1) (.int .i64 (18 : Int))).setCell ((⟨w_2.heap.size, 0, none⟩ : Addr).add 2) (.string (⟨#[]⟩ : ByteArray))).setCell ((⟨w_2.heap.size, 0, none⟩ : Addr).add 3) (.string (⟨#[]⟩ : ByteArray))).setCell ((⟨w_2.heap.size, 0, none⟩ : Addr).add 4) (.int .i64 (0 : Int))).cell? ((⟨w_2.heap.size, 0, none⟩ : Addr).add 5)).isSome = true ∧ (
  (((((w_3.setCell (⟨w_2.heap.size, 0, none⟩ : Addr) (.int .i64 (6 : Int))).setCell ((⟨w_2.heap.size, 0, none⟩ : Addr).add 1) (.int .i64 (18 : Int))).setCell ((⟨w_2.heap.size, 0, none⟩ : Addr).add 2) (.string (⟨#[]⟩ : ByteArray))).setCell ((⟨w_2.heap.size, 0, none⟩ : Addr).add 3) (.string (⟨#[]⟩ : ByteArray))).setCell ((⟨w_2.heap.size, 0, none⟩ : Addr).add 4) (.int .i64 (0 : Int))).frozen? ((⟨w_2.heap.size, 0, none⟩ : Addr).add 5) = false ∧ (
  -- law.go:23
  Calls Try.prog 7 #[.pointer (some (⟨w_2.heap.size, 0, none⟩ : Addr))] ((((((w_3.setCell (⟨w_2.heap.size, 0, none⟩ : Addr) (.int .i64 (6 : Int))).setCell ((⟨w_2.heap.size, 0, none⟩ : Addr).add 1) (.int .i64 (18 : Int))).setCell ((⟨w_2.heap.size, 0, none⟩ : Addr).add 2) (.string (⟨#[]⟩ : ByteArray))).setCell ((⟨w_2.heap.size, 0, none⟩ : Addr).add 3) (.string (⟨#[]⟩ : ByteArray))).setCell ((⟨w_2.heap.size, 0, none⟩ : Addr).add 4) (.int .i64 (0 : Int))).setCell ((⟨w_2.heap.size, 0, none⟩ : Addr).add 5) (.slice (some (⟨w_1.heap.size, 0, none⟩ : Addr)) 2 2)) fun (e : Ending) (w_4 : World) => (
  ∃ (r_Conjuncts : Option Addr) (r_Conjuncts_len r_Conjuncts_cap : Nat),
  e = .returned (.slice r_Conjuncts r_Conjuncts_len r_Conjuncts_cap) ∧ (
  (b_b < ((((((w_3.setCell (⟨w_2.heap.size, 0, none⟩ : Addr) (.int .i64 (6 : Int))).setCell ((⟨w_2.heap.size, 0, none⟩ : Addr).add 1) (.int .i64 (18 : Int))).setCell ((⟨w_2.heap.size, 0, none⟩ : Addr).add 2) (.string (⟨#[]⟩ : ByteArray))).setCell ((⟨w_2.heap.size, 0, none⟩ : Addr).add 3) (.string (⟨#[]⟩ : ByteArray))).setCell ((⟨w_2.heap.size, 0, none⟩ : Addr).add 4) (.int .i64 (0 : Int))).setCell ((⟨w_2.heap.size, 0, none⟩ : Addr).add 5) (.slice (some (⟨w_1.heap.size, 0, none⟩ : Addr)) 2 2)).heap.size → w_4.heap[b_b]? = ((((((w_3.setCell (⟨w_2.heap.size, 0, none⟩ : Addr) (.int .i64 (6 : Int))).setCell ((⟨w_2.heap.size, 0, none⟩ : Addr).add 1) (.int .i64 (18 : Int))).setCell ((⟨w_2.heap.size, 0, none⟩ : Addr).add 2) (.string (⟨#[]⟩ : ByteArray))).setCell ((⟨w_2.heap.size, 0, none⟩ : Addr).add 3) (.string (⟨#[]⟩ : ByteArray))).setCell ((⟨w_2.heap.size, 0, none⟩ : Addr).add 4) (.int .i64 (0 : Int))).setCell ((⟨w_2.heap.size, 0, none⟩ : Addr).add 5) (.slice (some (⟨w_1.heap.size, 0, none⟩ : Addr)) 2 2)).heap[b_b]?) ∧ (
  (b_a < ((((((w_3.setCell (⟨w_2.heap.size, 0, none⟩ : Addr) (.int .i64 (6 : Int))).setCell ((⟨w_2.heap.size, 0, none⟩ : Addr).add 1) (.int .i64 (18 : Int))).setCell ((⟨w_2.heap.size, 0, none⟩ : Addr).add 2) (.string (⟨#[]⟩ : ByteArray))).setCell ((⟨w_2.heap.size, 0, none⟩ : Addr).add 3) (.string (⟨#[]⟩ : ByteArray))).setCell ((⟨w_2.heap.size, 0, none⟩ : Addr).add 4) (.int .i64 (0 : Int))).setCell ((⟨w_2.heap.size, 0, none⟩ : Addr).add 5) (.slice (some (⟨w_1.heap.size, 0, none⟩ : Addr)) 2 2)).heap.size → w_4.heap[b_a]? = ((((((w_3.setCell (⟨w_2.heap.size, 0, none⟩ : Addr) (.int .i64 (6 : Int))).setCell ((⟨w_2.heap.size, 0, none⟩ : Addr).add 1) (.int .i64 (18 : Int))).setCell ((⟨w_2.heap.size, 0, none⟩ : Addr).add 2) (.string (⟨#[]⟩ : ByteArray))).setCell ((⟨w_2.heap.size, 0, none⟩ : Addr).add 3) (.string (⟨#[]⟩ : ByteArray))).setCell ((⟨w_2.heap.size, 0, none⟩ : Addr).add 4) (.int .i64 (0 : Int))).setCell ((⟨w_2.heap.size, 0, none⟩ : Addr).add 5) (.slice (some (⟨w_1.heap.size, 0, none⟩ : Addr)) 2 2)).heap[b_a]?) ∧ (
  -- law.go:24 (draws)
  ∀ w_5 : World,
  Vc.Fr (fun k => k = b_b ∨ k = b_a) w_4 w_5 → (
  b_b < w_5.heap.size → (
  b_a < w_5.heap.size → (
  ((((r_Conjuncts_len : Nat) : Int) == (2 : Int)) = true → (((r_Conjuncts_len : Nat) : Int) == (2 : Int)) = true) ∧ (
  ∃ p : Addr,
  ((((r_Conjuncts_len : Nat) : Int) == (2 : Int)) = true → r_Conjuncts = some p ∧ (0 ≤ (0 : Int) ∧ (0 : Int) < ((r_Conjuncts_len : Nat) : Int))) ∧ (
  (
   (((r_Conjuncts_len : Nat) : Int) == (2 : Int)) = true → (
   (((r_Conjuncts_len : Nat) : Int) == (2 : Int)) = true ∧ (
   ∃ t18_Kind : Int,
   w_5.cell? (p.add ((0 : Int).toNat * 6)) = some (.int .i64 t18_Kind) ∧ (
   ∃ t18_Op : Int,
   w_5.cell? ((p.add ((0 : Int).toNat * 6)).add 1) = some (.int .i64 t18_Op) ∧ (
   ∃ t18_S : ByteArray,
   w_5.cell? ((p.add ((0 : Int).toNat * 6)).add 2) = some (.string t18_S) ∧ (
   ∃ t18_T : ByteArray,
   w_5.cell? ((p.add ((0 : Int).toNat * 6)).add 3) = some (.string t18_T) ∧ (
   ∃ t18_N : Int,
   w_5.cell? ((p.add ((0 : Int).toNat * 6)).add 4) = some (.int .i64 t18_N) ∧ (
   ∃ (t18_L : Option Addr) (t18_L_len t18_L_cap : Nat),
   w_5.cell? ((p.add ((0 : Int).toNat * 6)).add 5) = some (.slice t18_L t18_L_len t18_L_cap) ∧ (
   (((r_Conjuncts_len : Nat) : Int) == (2 : Int)) = true ∧ (
   Calls Try.prog 13 #[.agg #[.int .i64 t18_Kind, .int .i64 t18_Op, .string t18_S, .string t18_T, .int .i64 t18_N, .slice t18_L t18_L_len t18_L_cap], .agg #[.int .i64 (4 : Int), .int .i64 (0 : Int), .string (⟨#[97]⟩ : ByteArray), .string (⟨#[]⟩ : ByteArray), .int .i64 (0 : Int), .slice none 0 0]] w_5 fun (e : Ending) (w_6 : World) => (
   ∃ r_SameNode : Bool,
   e = .returned (.bool r_SameNode) ∧ (
   (b_b < w_5.heap.size → w_6.heap[b_b]? = w_5.heap[b_b]?) ∧ (
   (b_a < w_5.heap.size → w_6.heap[b_a]? = w_5.heap[b_a]?) ∧ (
   Vc.Fr (fun k => False) w_5 w_6 ∧ (
   (
    r_SameNode = true → (
    Calls Try.prog 7 #[.pointer none] w_6 fun (e : Ending) (w_7 : World) => (
    ∃ (r_Conjuncts_1 : Option Addr) (r_Conjuncts_len_1 r_Conjuncts_cap_1 : Nat),
    e = .returned (.slice r_Conjuncts_1 r_Conjuncts_len_1 r_Conjuncts_cap_1) ∧ (
    (b_b < w_6.heap.size → w_7.heap[b_b]? = w_6.heap[b_b]?) ∧ (
    (b_a < w_6.heap.size → w_7.heap[b_a]? = w_6.heap[b_a]?) ∧ (
    Vc.Fr (fun k => False) w_5 w_7 ∧ (
    (
     (((r_Conjuncts_len_1 : Nat) : Int) == (0 : Int)) = true → (
     Calls Try.prog 10 #[.slice none 0 0] w_7 fun (e : Ending) (w_8 : World) => (
     ∃ r_Join : Option Addr,
     e = .returned (.pointer r_Join) ∧ (
     (b_b < w_7.heap.size → w_8.heap[b_b]? = w_7.heap[b_b]?) ∧ (
     (b_a < w_7.heap.size → w_8.heap[b_a]? = w_7.heap[b_a]?) ∧ (
     Vc.Fr (fun k => False) w_5 w_8 ∧ (
     (
      r_Join.isNone = true → (
      r_Join.isNone = true ∧ (
      Calls Try.prog 15 #[.agg #[.string (⟨#[98]⟩ : ByteArray), .string (⟨#[97]⟩ : ByteArray), .bool false]] w_8 fun (e : Ending) (w_9 : World) => (
      ∃ r_Empty : Bool,
      e = .returned (.bool r_Empty) ∧ (
      (b_b < w_8.heap.size → w_9.heap[b_b]? = w_8.heap[b_b]?) ∧ (
      (b_a < w_8.heap.size → w_9.heap[b_a]? = w_8.heap[b_a]?) ∧ (
      Vc.Fr (fun k => False) w_5 w_9 ∧ (
      R (.bool r_Empty) w_9))))))))
     ∧ (
      r_Join.isNone = false → (
      R (.bool false) w_8)))))))))
    ∧ (
     (((r_Conjuncts_len_1 : Nat) : Int) == (0 : Int)) = false → (
     R (.bool false) w_7)))))))))
   ∧ (
    r_SameNode = false → (
    R (.bool false) w_6)))))))))))))))))
  ∧ (
   (((r_Conjuncts_len : Nat) : Int) == (2 : Int)) = false → (
   R (.bool false) w_5)))))))))))))))))))))))))))))))))
def Sh.law22_awake_h : Vc.H := (.seq (.reg (.p 0 0 (.done 0))) (.seq (.reg (.p 0 0 (.p 1 0 (.o 2 1 (.o 3 1 (.o 4 0 (.o 5 0 (.done 0)))))))) (.seq (.reg (.p 0 0 (.p 1 0 (.o 2 0 (.p 3 0 (.o 4 0 (.o 5 0 (.done 0)))))))) (.seq (.reg (.o 0 0 (.p 1 0 (.done 0)))) (.seq (.draw false [] (.p 0 0 (.p 1 0 (.p 2 0 (.p 3 0 (.p 4 0 (.p 5 1 (.p 7 0 (.s 15 (.o 6 0 (.o 8 0 (.p 9 1 (.p 10 0 (.s 22 (.o 11 0 (.p 12 8 (.p 13 8 (.p 14 1 (.p 15 0 (.s 27 (.o 16 0 (.p 17 8 (.p 18 1 (.p 19 0 (.p 20 0 (.s 31 (.o 21 0 (.p 22 1 (.p 23 0 (.done 0)))) (.sk 21 (.p 22 1 (.p 23 0 (.done 0)))))))))) (.sk 16 (.sk 17 (.p 18 1 (.p 19 0 (.sk 20 (.sk 21 (.p 22 1 (.p 23 0 (.done 0))))))))))))))) (.sk 11 (.sk 12 (.sk 13 (.p 14 1 (.p 15 0 (.sk 16 (.sk 17 (.p 18 1 (.p 19 0 (.sk 20 (.sk 21 (.p 22 1 (.p 23 0 (.done 0))))))))))))))))))) (.sk 6 (.sk 8 (.p 9 1 (.p 10 0 (.sk 11 (.sk 12 (.sk 13 (.p 14 1 (.p 15 0 (.sk 16 (.sk 17 (.p 18 1 (.p 19 0 (.sk 20 (.sk 21 (.p 22 1 (.p 23 0 (.done 0))))))))))))))))))))))))))) (.nil 0))))))
theorem Sh.law22_awake_eq  (w : World) (R : Value → World → Prop) : Sh.law22_awake  w R = Vc.vcFn Try.prog tab okF Try.f5 Sh.law22_awake_h [] w R := by kernel_rfl
theorem Sh.law22_awake_calls  {w : World} {R : Value → World → Prop} (h : Sh.law22_awake  w R) : Calls Try.prog 5 #[] w fun e w' => ∃ v, e = .returned v ∧ R v w' :=
  Vc.fn_calls mixed tabOk okF_ok Try.func5 (by kernel_rfl) (by kernel_rfl) (by rw [← Sh.law22_awake_eq ]; exact h)

def Sh.plan_Conjuncts (n : Addr) (w : World) (R : Value → World → Prop) : Prop :=
  -- plan.go:32
  -- plan.go:33
  -- plan.go:36
  ∃ t8 : Int,
  w.cell? n = some (.int .i64 t8) ∧ (
  ((!(t8 != (6 : Int))) = true → (!(t8 != (6 : Int))) = true) ∧ (
  ((!(t8 != (6 : Int))) = true → (!(t8 != (6 : Int))) = true) ∧ (
  (
   (t8 != (6 : Int)) = true → (
   -- plan.go:37
   ∃ t27_Kind : Int,
   w.cell? n = some (.int .i64 t27_Kind) ∧ (
   ∃ t27_Op : Int,
   w.cell? (n.add 1) = some (.int .i64 t27_Op) ∧ (
   ∃ t27_S : ByteArray,
   w.cell? (n.add 2) = some (.string t27_S) ∧ (
   ∃ t27_T : ByteArray,
   w.cell? (n.add 3) = some (.string t27_T) ∧ (
   ∃ t27_N : Int,
   w.cell? (n.add 4) = some (.int .i64 t27_N) ∧ (
   ∃ (t27_L : Option Addr) (t27_L_len t27_L_cap : Nat),
   w.cell? (n.add 5) = some (.slice t27_L t27_L_len t27_L_cap) ∧ (
   ∀ w_1 : World,
   w_1 = w.alloc (.cells #[.int .i64 t27_Kind, .int .i64 t27_Op, .string t27_S, .string t27_T, .int .i64 t27_N, .slice t27_L t27_L_len t27_L_cap] 24) → (
   R (.slice (some (⟨w.heap.size, 0, none⟩ : Addr)) 1 1) w_1)))))))))
  ∧ (
   (t8 != (6 : Int)) = false → (
   (!(t8 != (6 : Int))) = true ∧ (
   ∃ t14 : Int,
   w.cell? (n.add 1) = some (.int .i64 t14) ∧ (
   ((!(t14 != (18 : Int))) = true → (!(t14 != (18 : Int))) = true) ∧ (
   ((!(t14 != (18 : Int))) = true → (!(t14 != (18 : Int))) = true) ∧ (
   (
    (t14 != (18 : Int)) = true → (
    -- plan.go:37
    ∃ t27_Kind_1 : Int,
    w.cell? n = some (.int .i64 t27_Kind_1) ∧ (
    ∃ t27_Op_1 : Int,
    w.cell? (n.add 1) = some (.int .i64 t27_Op_1) ∧ (
    ∃ t27_S_1 : ByteArray,
    w.cell? (n.add 2) = some (.string t27_S_1) ∧ (
    ∃ t27_T_1 : ByteArray,
    w.cell? (n.add 3) = some (.string t27_T_1) ∧ (
    ∃ t27_N_1 : Int,
    w.cell? (n.add 4) = some (.int .i64 t27_N_1) ∧ (
    ∃ (t27_L_1 : Option Addr) (t27_L_len_1 t27_L_cap_1 : Nat),
    w.cell? (n.add 5) = some (.slice t27_L_1 t27_L_len_1 t27_L_cap_1) ∧ (
    ∀ w_2 : World,
    w_2 = w.alloc (.cells #[.int .i64 t27_Kind_1, .int .i64 t27_Op_1, .string t27_S_1, .string t27_T_1, .int .i64 t27_N_1, .slice t27_L_1 t27_L_len_1 t27_L_cap_1] 24) → (
    R (.slice (some (⟨w.heap.size, 0, none⟩ : Addr)) 1 1) w_2)))))))))
   ∧ (
    (t14 != (18 : Int)) = false → (
    (!(t14 != (18 : Int))) = true ∧ (
    ∃ (t21 : Option Addr) (t21_len t21_cap : Nat),
    w.cell? (n.add 5) = some (.slice t21 t21_len t21_cap) ∧ (
    (
     (((t21_len : Nat) : Int) != (2 : Int)) = true → (
     -- plan.go:37
     ∃ t27_Kind_2 : Int,
     w.cell? n = some (.int .i64 t27_Kind_2) ∧ (
     ∃ t27_Op_2 : Int,
     w.cell? (n.add 1) = some (.int .i64 t27_Op_2) ∧ (
     ∃ t27_S_2 : ByteArray,
     w.cell? (n.add 2) = some (.string t27_S_2) ∧ (
     ∃ t27_T_2 : ByteArray,
     w.cell? (n.add 3) = some (.string t27_T_2) ∧ (
     ∃ t27_N_2 : Int,
     w.cell? (n.add 4) = some (.int .i64 t27_N_2) ∧ (
     ∃ (t27_L_2 : Option Addr) (t27_L_len_2 t27_L_cap_2 : Nat),
     w.cell? (n.add 5) = some (.slice t27_L_2 t27_L_len_2 t27_L_cap_2) ∧ (
     ∀ w_3 : World,
     w_3 = w.alloc (.cells #[.int .i64 t27_Kind_2, .int .i64 t27_Op_2, .string t27_S_2, .string t27_T_2, .int .i64 t27_N_2, .slice t27_L_2 t27_L_len_2 t27_L_cap_2] 24) → (
     R (.slice (some (⟨w.heap.size, 0, none⟩ : Addr)) 1 1) w_3)))))))))
    ∧ (
     (((t21_len : Nat) : Int) != (2 : Int)) = false → (
     -- plan.go:39 (draws)
     ∀ w_4 : World,
     Vc.Fr (fun k => False) w w_4 → (
     ∃ (t32 : Option Addr) (t32_len t32_cap : Nat),
     w_4.cell? (n.add 5) = some (.slice t32 t32_len t32_cap) ∧ (
     ∃ p : Addr,
     t32 = some p ∧ (
     (0 ≤ (0 : Int) ∧ (0 : Int) < ((t32_len : Nat) : Int)) ∧ (
     ∃ (t38 : Option Addr) (t38_len t38_cap : Nat),
     w_4.cell? (n.add 5) = some (.slice t38 t38_len t38_cap) ∧ (
     ∃ p_1 : Addr,
     t38 = some p_1 ∧ (
     (0 ≤ (1 : Int) ∧ (1 : Int) < ((t38_len : Nat) : Int)) ∧ (
     Calls Try.prog 7 #[.pointer (some (p.add ((0 : Int).toNat * 6)))] w_4 fun (e : Ending) (w_5 : World) => (
     ∃ (r_Conjuncts : Option Addr) (r_Conjuncts_len r_Conjuncts_cap : Nat),
     e = .returned (.slice r_Conjuncts r_Conjuncts_len r_Conjuncts_cap) ∧ (
     Vc.Fr (fun k => False) w_4 w_5 ∧ (
     Calls Try.prog 7 #[.pointer (some (p_1.add ((1 : Int).toNat * 6)))] w_5 fun (e : Ending) (w_6 : World) => (
     ∃ (r_Conjuncts_1 : Option Addr) (r_Conjuncts_len_1 r_Conjuncts_cap_1 : Nat),
     e = .returned (.slice r_Conjuncts_1 r_Conjuncts_len_1 r_Conjuncts_cap_1) ∧ (
     Vc.Fr (fun k => False) w_4 w_6 ∧ (
     ∀ w_7 : World,
     w_7 = w_6.alloc (.cells #[.slice r_Conjuncts r_Conjuncts_len r_Conjuncts_cap, .slice r_Conjuncts_1 r_Conjuncts_len_1 r_Conjuncts_cap_1] 22) → (
     Vc.Fr (fun k => False) w_4 w_7 ∧ (
     Calls Try.prog 19 #[.slice (some (⟨w_6.heap.size, 0, none⟩ : Addr)) 2 2] w_7 fun (e : Ending) (w_8 : World) => (
     ∃ (r_Concat : Option Addr) (r_Concat_len r_Concat_cap : Nat),
     e = .returned (.slice r_Concat r_Concat_len r_Concat_cap) ∧ (
     Vc.Fr (fun k => False) w_4 w_8 ∧ (
     Calls Try.prog 18 #[.slice r_Concat r_Concat_len r_Concat_cap] w_8 fun (e : Ending) (w_9 : World) => (
     ∃ (r_Clip : Option Addr) (r_Clip_len r_Clip_cap : Nat),
     e = .returned (.slice r_Clip r_Clip_len r_Clip_cap) ∧ (
     Vc.Fr (fun k => False) w_4 w_9 ∧ (
     R (.slice r_Clip r_Clip_len r_Clip_cap) w_9))))))))))))))))))))))))))))))))))))
def Sh.plan_Conjuncts_h : Vc.H := (.seq (.reg (.p 0 0 (.done 0))) (.seq (.seq (.reg (.p 0 0 (.p 1 0 (.done 0)))) (.cond true (.nil 0) (.nil 0))) (.seq (.seq (.reg (.p 0 0 (.p 1 0 (.p 2 0 (.o 3 0 (.p 4 0 (.p 5 0 (.p 6 0 (.p 7 0 (.p 8 0 (.s 10 (.sk 9 (.sk 10 (.p 11 1 (.p 12 0 (.sk 13 (.sk 14 (.sk 15 (.sk 16 (.sk 17 (.sk 18 (.p 19 1 (.done 0)))))))))))) (.o 9 0 (.p 10 8 (.p 11 1 (.p 12 0 (.p 13 0 (.p 14 0 (.p 15 0 (.s 17 (.sk 16 (.sk 17 (.sk 18 (.p 19 1 (.done 0))))) (.o 16 0 (.p 17 8 (.p 18 8 (.p 19 1 (.done 1)))))))))))))))))))))))) (.alt (.cond true (.seq (.reg (.p 0 0 (.p 1 0 (.o 2 0 (.o 3 0 (.p 4 0 (.done 0))))))) (.nil 0)) (.nil 0)) (.cond false (.seq (.reg (.p 0 0 (.p 1 0 (.o 2 0 (.o 3 0 (.p 4 0 (.done 0))))))) (.nil 0)) (.nil 0)))) (.seq (.draw false [] (.p 0 0 (.p 1 0 (.p 2 0 (.l 3 (.p 4 1 (.p 6 0 (.p 7 0 (.p 8 0 (.l 9 (.p 10 1 (.o 5 0 (.o 11 0 (.o 12 0 (.o 13 0 (.o 14 0 (.p 15 0 (.done 0)))))))))))))))))) (.nil 0)))))
theorem Sh.plan_Conjuncts_eq (n : Addr) (w : World) (R : Value → World → Prop) : Sh.plan_Conjuncts n w R = Vc.vcFn Try.prog tab okF Try.f7 Sh.plan_Conjuncts_h [.pointer (some n)] w R := by kernel_rfl
theorem Sh.plan_Conjuncts_calls (n : Addr) {w : World} {R : Value → World → Prop} (h : Sh.plan_Conjuncts n w R) : Calls Try.prog 7 #[.pointer (some n)] w fun e w' => ∃ v, e = .returned v ∧ R v w' :=
  Vc.fn_calls mixed tabOk okF_ok Try.func7 (by kernel_rfl) (by kernel_rfl) (by rw [← Sh.plan_Conjuncts_eq n]; exact h)

def Sh.plan_Conjuncts_o (n : Option Addr) (w : World) (R : Value → World → Prop) : Prop :=
  -- plan.go:32
  -- plan.go:33
  (
   n.isNone = true → (
   -- plan.go:34
   R (.slice none 0 0) w))
  ∧ (
   n.isNone = false → (
   -- plan.go:36
   ∃ p : Addr,
   n = some p ∧ (
   ∃ t8 : Int,
   w.cell? p = some (.int .i64 t8) ∧ (
   ((!(t8 != (6 : Int))) = true → (!(t8 != (6 : Int))) = true) ∧ (
   ∃ p_1 : Addr,
   ((!(t8 != (6 : Int))) = true → n = some p_1) ∧ (
   ((!(t8 != (6 : Int))) = true → (!(t8 != (6 : Int))) = true) ∧ (
   (
    (t8 != (6 : Int)) = true → (
    -- plan.go:37
    ∃ p_2 : Addr,
    n = some p_2 ∧ (
    ∃ t27_Kind : Int,
    w.cell? p_2 = some (.int .i64 t27_Kind) ∧ (
    ∃ t27_Op : Int,
    w.cell? (p_2.add 1) = some (.int .i64 t27_Op) ∧ (
    ∃ t27_S : ByteArray,
    w.cell? (p_2.add 2) = some (.string t27_S) ∧ (
    ∃ t27_T : ByteArray,
    w.cell? (p_2.add 3) = some (.string t27_T) ∧ (
    ∃ t27_N : Int,
    w.cell? (p_2.add 4) = some (.int .i64 t27_N) ∧ (
    ∃ (t27_L : Option Addr) (t27_L_len t27_L_cap : Nat),
    w.cell? (p_2.add 5) = some (.slice t27_L t27_L_len t27_L_cap) ∧ (
    ∀ w_1 : World,
    w_1 = w.alloc (.cells #[.int .i64 t27_Kind, .int .i64 t27_Op, .string t27_S, .string t27_T, .int .i64 t27_N, .slice t27_L t27_L_len t27_L_cap] 24) → (
    R (.slice (some (⟨w.heap.size, 0, none⟩ : Addr)) 1 1) w_1))))))))))
   ∧ (
    (t8 != (6 : Int)) = false → (
    (!(t8 != (6 : Int))) = true ∧ (
    ∃ t14 : Int,
    w.cell? (p_1.add 1) = some (.int .i64 t14) ∧ (
    ((!(t14 != (18 : Int))) = true → (!(t14 != (18 : Int))) = true) ∧ (
    ∃ p_3 : Addr,
    ((!(t14 != (18 : Int))) = true → n = some p_3) ∧ (
    ((!(t14 != (18 : Int))) = true → (!(t14 != (18 : Int))) = true) ∧ (
    (
     (t14 != (18 : Int)) = true → (
     -- plan.go:37
     ∃ p_4 : Addr,
     n = some p_4 ∧ (
     ∃ t27_Kind_1 : Int,
     w.cell? p_4 = some (.int .i64 t27_Kind_1) ∧ (
     ∃ t27_Op_1 : Int,
     w.cell? (p_4.add 1) = some (.int .i64 t27_Op_1) ∧ (
     ∃ t27_S_1 : ByteArray,
     w.cell? (p_4.add 2) = some (.string t27_S_1) ∧ (
     ∃ t27_T_1 : ByteArray,
     w.cell? (p_4.add 3) = some (.string t27_T_1) ∧ (
     ∃ t27_N_1 : Int,
     w.cell? (p_4.add 4) = some (.int .i64 t27_N_1) ∧ (
     ∃ (t27_L_1 : Option Addr) (t27_L_len_1 t27_L_cap_1 : Nat),
     w.cell? (p_4.add 5) = some (.slice t27_L_1 t27_L_len_1 t27_L_cap_1) ∧ (
     ∀ w_2 : World,
     w_2 = w.alloc (.cells #[.int .i64 t27_Kind_1, .int .i64 t27_Op_1, .string t27_S_1, .string t27_T_1, .int .i64 t27_N_1, .slice t27_L_1 t27_L_len_1 t27_L_cap_1] 24) → (
     R (.slice (some (⟨w.heap.size, 0, none⟩ : Addr)) 1 1) w_2))))))))))
    ∧ (
     (t14 != (18 : Int)) = false → (
     (!(t14 != (18 : Int))) = true ∧ (
     ∃ (t21 : Option Addr) (t21_len t21_cap : Nat),
     w.cell? (p_3.add 5) = some (.slice t21 t21_len t21_cap) ∧ (
     (
      (((t21_len : Nat) : Int) != (2 : Int)) = true → (
      -- plan.go:37
      ∃ p_5 : Addr,
      n = some p_5 ∧ (
      ∃ t27_Kind_2 : Int,
      w.cell? p_5 = some (.int .i64 t27_Kind_2) ∧ (
      ∃ t27_Op_2 : Int,
      w.cell? (p_5.add 1) = some (.int .i64 t27_Op_2) ∧ (
      ∃ t27_S_2 : ByteArray,
      w.cell? (p_5.add 2) = some (.string t27_S_2) ∧ (
      ∃ t27_T_2 : ByteArray,
      w.cell? (p_5.add 3) = some (.string t27_T_2) ∧ (
      ∃ t27_N_2 : Int,
      w.cell? (p_5.add 4) = some (.int .i64 t27_N_2) ∧ (
      ∃ (t27_L_2 : Option Addr) (t27_L_len_2 t27_L_cap_2 : Nat),
      w.cell? (p_5.add 5) = some (.slice t27_L_2 t27_L_len_2 t27_L_cap_2) ∧ (
      ∀ w_3 : World,
      w_3 = w.alloc (.cells #[.int .i64 t27_Kind_2, .int .i64 t27_Op_2, .string t27_S_2, .string t27_T_2, .int .i64 t27_N_2, .slice t27_L_2 t27_L_len_2 t27_L_cap_2] 24) → (
      R (.slice (some (⟨w.heap.size, 0, none⟩ : Addr)) 1 1) w_3))))))))))
     ∧ (
      (((t21_len : Nat) : Int) != (2 : Int)) = false → (
      -- plan.go:39 (draws)
      ∀ w_4 : World,
      Vc.Fr (fun k => False) w w_4 → (
      ∃ p_6 : Addr,
      n = some p_6 ∧ (
      ∃ (t32 : Option Addr) (t32_len t32_cap : Nat),
      w_4.cell? (p_6.add 5) = some (.slice t32 t32_len t32_cap) ∧ (
      ∃ p_7 : Addr,
      t32 = some p_7 ∧ (
      (0 ≤ (0 : Int) ∧ (0 : Int) < ((t32_len : Nat) : Int)) ∧ (
      ∃ p_8 : Addr,
      n = some p_8 ∧ (
      ∃ (t38 : Option Addr) (t38_len t38_cap : Nat),
      w_4.cell? (p_8.add 5) = some (.slice t38 t38_len t38_cap) ∧ (
      ∃ p_9 : Addr,
      t38 = some p_9 ∧ (
      (0 ≤ (1 : Int) ∧ (1 : Int) < ((t38_len : Nat) : Int)) ∧ (
      Calls Try.prog 7 #[.pointer (some (p_7.add ((0 : Int).toNat * 6)))] w_4 fun (e : Ending) (w_5 : World) => (
      ∃ (r_Conjuncts : Option Addr) (r_Conjuncts_len r_Conjuncts_cap : Nat),
      e = .returned (.slice r_Conjuncts r_Conjuncts_len r_Conjuncts_cap) ∧ (
      Vc.Fr (fun k => False) w_4 w_5 ∧ (
      Calls Try.prog 7 #[.pointer (some (p_9.add ((1 : Int).toNat * 6)))] w_5 fun (e : Ending) (w_6 : World) => (
      ∃ (r_Conjuncts_1 : Option Addr) (r_Conjuncts_len_1 r_Conjuncts_cap_1 : Nat),
      e = .returned (.slice r_Conjuncts_1 r_Conjuncts_len_1 r_Conjuncts_cap_1) ∧ (
      Vc.Fr (fun k => False) w_4 w_6 ∧ (
      ∀ w_7 : World,
      w_7 = w_6.alloc (.cells #[.slice r_Conjuncts r_Conjuncts_len r_Conjuncts_cap, .slice r_Conjuncts_1 r_Conjuncts_len_1 r_Conjuncts_cap_1] 22) → (
      Vc.Fr (fun k => False) w_4 w_7 ∧ (
      Calls Try.prog 19 #[.slice (some (⟨w_6.heap.size, 0, none⟩ : Addr)) 2 2] w_7 fun (e : Ending) (w_8 : World) => (
      ∃ (r_Concat : Option Addr) (r_Concat_len r_Concat_cap : Nat),
      e = .returned (.slice r_Concat r_Concat_len r_Concat_cap) ∧ (
      Vc.Fr (fun k => False) w_4 w_8 ∧ (
      Calls Try.prog 18 #[.slice r_Concat r_Concat_len r_Concat_cap] w_8 fun (e : Ending) (w_9 : World) => (
      ∃ (r_Clip : Option Addr) (r_Clip_len r_Clip_cap : Nat),
      e = .returned (.slice r_Clip r_Clip_len r_Clip_cap) ∧ (
      Vc.Fr (fun k => False) w_4 w_9 ∧ (
      R (.slice r_Clip r_Clip_len r_Clip_cap) w_9)))))))))))))))))))))))))))))))))))))))))))
def Sh.plan_Conjuncts_o_h : Vc.H := (.seq (.reg (.p 0 0 (.done 0))) (.seq (.seq (.reg (.p 0 0 (.p 1 0 (.done 0)))) (.cond false (.seq (.reg (.p 0 0 (.done 0))) (.nil 0)) (.nil 0))) (.seq (.seq (.reg (.p 0 0 (.p 1 1 (.p 2 0 (.o 3 0 (.p 4 0 (.p 5 0 (.p 6 0 (.p 7 1 (.p 8 0 (.s 10 (.sk 9 (.sk 10 (.p 11 1 (.p 12 0 (.sk 13 (.sk 14 (.sk 15 (.sk 16 (.sk 17 (.sk 18 (.p 19 1 (.done 0)))))))))))) (.o 9 0 (.p 10 8 (.p 11 1 (.p 12 0 (.p 13 0 (.p 14 1 (.p 15 0 (.s 17 (.sk 16 (.sk 17 (.sk 18 (.p 19 1 (.done 0))))) (.o 16 0 (.p 17 8 (.p 18 8 (.p 19 1 (.done 1)))))))))))))))))))))))) (.alt (.cond true (.seq (.reg (.p 0 0 (.p 1 1 (.o 2 0 (.o 3 0 (.p 4 0 (.done 0))))))) (.nil 0)) (.nil 0)) (.cond false (.seq (.reg (.p 0 0 (.p 1 1 (.o 2 0 (.o 3 0 (.p 4 0 (.done 0))))))) (.nil 0)) (.nil 0)))) (.seq (.draw false [] (.p 0 0 (.p 1 1 (.p 2 0 (.l 3 (.p 4 1 (.p 6 0 (.p 7 1 (.p 8 0 (.l 9 (.p 10 1 (.o 5 0 (.o 11 0 (.o 12 0 (.o 13 0 (.o 14 0 (.p 15 0 (.done 0)))))))))))))))))) (.nil 0)))))
theorem Sh.plan_Conjuncts_o_eq (n : Option Addr) (w : World) (R : Value → World → Prop) : Sh.plan_Conjuncts_o n w R = Vc.vcFn Try.prog tab okF Try.f7 Sh.plan_Conjuncts_o_h [.pointer n] w R := by kernel_rfl
theorem Sh.plan_Conjuncts_o_calls (n : Option Addr) {w : World} {R : Value → World → Prop} (h : Sh.plan_Conjuncts_o n w R) : Calls Try.prog 7 #[.pointer n] w fun e w' => ∃ v, e = .returned v ∧ R v w' :=
  Vc.fn_calls mixed tabOk okF_ok Try.func7 (by kernel_rfl) (by kernel_rfl) (by rw [← Sh.plan_Conjuncts_o_eq n]; exact h)

def Sh.law22_conjuncts (n_Kind : Int) (n_Op : Int) (n_S : ByteArray) (n_T : ByteArray) (n_N : Int) (n_L : Option Addr) (n_L_len n_L_cap : Nat) (w : World) (R : Value → World → Prop) : Prop :=
  -- law.go:28
  ∀ b_n : Nat,
  w.heap.size ≤ b_n → (
  -- law.go:29
  ((!(n_Kind != (6 : Int))) = true → (!(n_Kind != (6 : Int))) = true) ∧ (
  ((!(n_Kind != (6 : Int))) = true → (!(n_Kind != (6 : Int))) = true) ∧ (
  ((n_Kind != (6 : Int)) = false → (!(n_Kind != (6 : Int))) = true) ∧ (
  ((!((n_Kind != (6 : Int)) || (n_Op != (18 : Int)))) = true → (!((n_Kind != (6 : Int)) || (n_Op != (18 : Int)))) = true) ∧ (
  ((!((n_Kind != (6 : Int)) || (n_Op != (18 : Int)))) = true → (!((n_Kind != (6 : Int)) || (n_Op != (18 : Int)))) = true) ∧ (
  ((!((n_Kind != (6 : Int)) || (n_Op != (18 : Int)))) = true → (!((n_Kind != (6 : Int)) || (n_Op != (18 : Int)))) = true) ∧ (
  (((n_Kind != (6 : Int)) || (n_Op != (18 : Int))) = false → (!((n_Kind != (6 : Int)) || (n_Op != (18 : Int)))) = true) ∧ (
  (
   (((n_Kind != (6 : Int)) || (n_Op != (18 : Int))) || (((n_L_len : Nat) : Int) != (2 : Int))) = true → (
   -- law.go:30
   ∀ w_1 : World,
   Vc.Fr (fun k => k = b_n) w w_1 → (
   b_n < w_1.heap.size → (
   ∀ w_2 : World,
   w_2 = w_1.alloc (.cells #[.int .i64 n_Kind, .int .i64 n_Op, .string n_S, .string n_T, .int .i64 n_N, .slice n_L n_L_len n_L_cap] 24) → (
   R (.slice (some (⟨w_1.heap.size, 0, none⟩ : Addr)) 1 1) w_2)))))
  ∧ (
   (((n_Kind != (6 : Int)) || (n_Op != (18 : Int))) || (((n_L_len : Nat) : Int) != (2 : Int))) = false → (
   -- law.go:32 (draws)
   ∀ w_3 : World,
   Vc.Fr (fun k => k = b_n) w w_3 → (
   b_n < w_3.heap.size → (
   ∃ p : Addr,
   n_L = some p ∧ (
   (0 ≤ (0 : Int) ∧ (0 : Int) < ((n_L_len : Nat) : Int)) ∧ (
   ∃ t22_Kind : Int,
   w_3.cell? (p.add ((0 : Int).toNat * 6)) = some (.int .i64 t22_Kind) ∧ (
   ∃ t22_Op : Int,
   w_3.cell? ((p.add ((0 : Int).toNat * 6)).add 1) = some (.int .i64 t22_Op) ∧ (
   ∃ t22_S : ByteArray,
   w_3.cell? ((p.add ((0 : Int).toNat * 6)).add 2) = some (.string t22_S) ∧ (
   ∃ t22_T : ByteArray,
   w_3.cell? ((p.add ((0 : Int).toNat * 6)).add 3) = some (.string t22_T) ∧ (
   ∃ t22_N : Int,
   w_3.cell? ((p.add ((0 : Int).toNat * 6)).add 4) = some (.int .i64 t22_N) ∧ (
   ∃ (t22_L : Option Addr) (t22_L_len t22_L_cap : Nat),
   w_3.cell? ((p.add ((0 : Int).toNat * 6)).add 5) = some (.slice t22_L t22_L_len t22_L_cap) ∧ (
   ∃ p_1 : Addr,
   n_L = some p_1 ∧ (
   (0 ≤ (1 : Int) ∧ (1 : Int) < ((n_L_len : Nat) : Int)) ∧ (
   ∃ t27_Kind : Int,
   w_3.cell? (p_1.add ((1 : Int).toNat * 6)) = some (.int .i64 t27_Kind) ∧ (
   ∃ t27_Op : Int,
   w_3.cell? ((p_1.add ((1 : Int).toNat * 6)).add 1) = some (.int .i64 t27_Op) ∧ (
   ∃ t27_S : ByteArray,
   w_3.cell? ((p_1.add ((1 : Int).toNat * 6)).add 2) = some (.string t27_S) ∧ (
   ∃ t27_T : ByteArray,
   w_3.cell? ((p_1.add ((1 : Int).toNat * 6)).add 3) = some (.string t27_T) ∧ (
   ∃ t27_N : Int,
   w_3.cell? ((p_1.add ((1 : Int).toNat * 6)).add 4) = some (.int .i64 t27_N) ∧ (
   ∃ (t27_L : Option Addr) (t27_L_len t27_L_cap : Nat),
   w_3.cell? ((p_1.add ((1 : Int).toNat * 6)).add 5) = some (.slice t27_L t27_L_len t27_L_cap) ∧ (
   Calls Try.prog 9 #[.agg #[.int .i64 t22_Kind, .int .i64 t22_Op, .string t22_S, .string t22_T, .int .i64 t22_N, .slice t22_L t22_L_len t22_L_cap]] w_3 fun (e : Ending) (w_4 : World) => (
   ∃ (r_conjuncts : Option Addr) (r_conjuncts_len r_conjuncts_cap : Nat),
   e = .returned (.slice r_conjuncts r_conjuncts_len r_conjuncts_cap) ∧ (
   (b_n < w_3.heap.size → w_4.heap[b_n]? = w_3.heap[b_n]?) ∧ (
   Vc.Fr (fun k => False) w_3 w_4 ∧ (
   Calls Try.prog 9 #[.agg #[.int .i64 t27_Kind, .int .i64 t27_Op, .string t27_S, .string t27_T, .int .i64 t27_N, .slice t27_L t27_L_len t27_L_cap]] w_4 fun (e : Ending) (w_5 : World) => (
   ∃ (r_conjuncts_1 : Option Addr) (r_conjuncts_len_1 r_conjuncts_cap_1 : Nat),
   e = .returned (.slice r_conjuncts_1 r_conjuncts_len_1 r_conjuncts_cap_1) ∧ (
   (b_n < w_4.heap.size → w_5.heap[b_n]? = w_4.heap[b_n]?) ∧ (
   Vc.Fr (fun k => False) w_3 w_5 ∧ (
   ∃ (t29 : Option Addr) (t29_len t29_cap : Nat),
   ∃ w_6 : World,
   (Builtin.append_ #[22, 22] 22 #[.slice r_conjuncts r_conjuncts_len r_conjuncts_cap, .slice r_conjuncts_1 r_conjuncts_len_1 r_conjuncts_cap_1]).run Try.prog w_5 = .ok (.slice t29 t29_len t29_cap) w_6 ∧ (
   (b_n < w_5.heap.size → w_6.heap[b_n]? = w_5.heap[b_n]?) ∧ (
   Vc.Fr (fun k => False) w_3 w_6 ∧ (
   R (.slice t29 t29_len t29_cap) w_6)))))))))))))))))))))))))))))))))))))))
def Sh.law22_conjuncts_h : Vc.H := (.seq (.reg (.o 0 1 (.p 1 0 (.done 0)))) (.seq (.seq (.reg (.p 0 0 (.p 1 0 (.p 2 0 (.p 3 0 (.p 4 0 (.p 5 0 (.p 6 0 (.p 7 0 (.p 8 0 (.p 9 0 (.p 10 0 (.p 11 0 (.p 12 0 (.p 13 0 (.done 0)))))))))))))))) (.cond false (.seq (.reg (.p 0 0 (.o 1 0 (.p 2 0 (.done 0))))) (.nil 0)) (.nil 0))) (.seq (.draw false [] (.p 0 0 (.p 1 0 (.p 2 1 (.l 3 (.p 5 0 (.p 6 0 (.p 7 1 (.l 8 (.o 4 0 (.o 9 0 (.o 10 9 (.p 11 0 (.done 0)))))))))))))) (.nil 0))))
theorem Sh.law22_conjuncts_eq (n_Kind : Int) (n_Op : Int) (n_S : ByteArray) (n_T : ByteArray) (n_N : Int) (n_L : Option Addr) (n_L_len n_L_cap : Nat) (w : World) (R : Value → World → Prop) : Sh.law22_conjuncts n_Kind n_Op n_S n_T n_N n_L n_L_len n_L_cap w R = Vc.vcFn Try.prog tab okF Try.f9 Sh.law22_conjuncts_h [.agg #[.int .i64 n_Kind, .int .i64 n_Op, .string n_S, .string n_T, .int .i64 n_N, .slice n_L n_L_len n_L_cap]] w R := by kernel_rfl
theorem Sh.law22_conjuncts_calls (n_Kind : Int) (n_Op : Int) (n_S : ByteArray) (n_T : ByteArray) (n_N : Int) (n_L : Option Addr) (n_L_len n_L_cap : Nat) {w : World} {R : Value → World → Prop} (h : Sh.law22_conjuncts n_Kind n_Op n_S n_T n_N n_L n_L_len n_L_cap w R) : Calls Try.prog 9 #[.agg #[.int .i64 n_Kind, .int .i64 n_Op, .string n_S, .string n_T, .int .i64 n_N, .slice n_L n_L_len n_L_cap]] w fun e w' => ∃ v, e = .returned v ∧ R v w' :=
  Vc.fn_calls mixed tabOk okF_ok Try.func9 (by kernel_rfl) (by kernel_rfl) (by rw [← Sh.law22_conjuncts_eq n_Kind n_Op n_S n_T n_N n_L n_L_len n_L_cap]; exact h)

def Sh.plan_Join (l : Option Addr) (l_len l_cap : Nat) (w : World) (R : Value → World → Prop) : Prop :=
  -- plan.go:43
  -- plan.go:44
  (
   (((l_len : Nat) : Int) == (0 : Int)) = true → (
   -- plan.go:45
   R (.pointer none) w))
  ∧ (
   (((l_len : Nat) : Int) == (0 : Int)) = false → (
   -- plan.go:47
   ∃ p : Addr,
   l = some p ∧ (
   (0 ≤ (0 : Int) ∧ (0 : Int) < ((l_len : Nat) : Int)) ∧ (
   ∃ t11_Kind : Int,
   w.cell? (p.add ((0 : Int).toNat * 6)) = some (.int .i64 t11_Kind) ∧ (
   ∃ t11_Op : Int,
   w.cell? ((p.add ((0 : Int).toNat * 6)).add 1) = some (.int .i64 t11_Op) ∧ (
   ∃ t11_S : ByteArray,
   w.cell? ((p.add ((0 : Int).toNat * 6)).add 2) = some (.string t11_S) ∧ (
   ∃ t11_T : ByteArray,
   w.cell? ((p.add ((0 : Int).toNat * 6)).add 3) = some (.string t11_T) ∧ (
   ∃ t11_N : Int,
   w.cell? ((p.add ((0 : Int).toNat * 6)).add 4) = some (.int .i64 t11_N) ∧ (
   ∃ (t11_L : Option Addr) (t11_L_len t11_L_cap : Nat),
   w.cell? ((p.add ((0 : Int).toNat * 6)).add 5) = some (.slice t11_L t11_L_len t11_L_cap) ∧ (
   ∀ w_1 : World,
   w_1 = w.alloc (.cells #[.int .i64 (0 : Int), .int .i64 (0 : Int), .string (⟨#[]⟩ : ByteArray), .string (⟨#[]⟩ : ByteArray), .int .i64 (0 : Int), .slice none 0 0] 24) → (
   (w_1.cell? (⟨w.heap.size, 0, none⟩ : Addr)).isSome = true ∧ (
   w_1.frozen? (⟨w.heap.size, 0, none⟩ : Addr) = false ∧ (
   ((w_1.setCell (⟨w.heap.size, 0, none⟩ : Addr) (.int .i64 t11_Kind)).cell? ((⟨w.heap.size, 0, none⟩ : Addr).add 1)).isSome = true ∧ (
   (w_1.setCell (⟨w.heap.size, 0, none⟩ : Addr) (.int .i64 t11_Kind)).frozen? ((⟨w.heap.size, 0, none⟩ : Addr).add 1) = false ∧ (
   (((w_1.setCell (⟨w.heap.size, 0, none⟩ : Addr) (.int .i64 t11_Kind)).setCell ((⟨w.heap.size, 0, none⟩ : Addr).add 1) (.int .i64 t11_Op)).cell? ((⟨w.heap.size, 0, none⟩ : Addr).add 2)).isSome = true ∧ (
   ((w_1.setCell (⟨w.heap.size, 0, none⟩ : Addr) (.int .i64 t11_Kind)).setCell ((⟨w.heap.size, 0, none⟩ : Addr).add 1) (.int .i64 t11_Op)).frozen? ((⟨w.heap.size, 0, none⟩ : Addr).add 2) = false ∧ (
   ((((w_1.setCell (⟨w.heap.size, 0, none⟩ : Addr) (.int .i64 t11_Kind)).setCell ((⟨w.heap.size, 0, none⟩ : Addr).add 1) (.int .i64 t11_Op)).setCell ((⟨w.heap.size, 0, none⟩ : Addr).add 2) (.string t11_S)).cell? ((⟨w.heap.size, 0, none⟩ : Addr).add 3)).isSome = true ∧ (
   (((w_1.setCell (⟨w.heap.size, 0, none⟩ : Addr) (.int .i64 t11_Kind)).setCell ((⟨w.heap.size, 0, none⟩ : Addr).add 1) (.int .i64 t11_Op)).setCell ((⟨w.heap.size, 0, none⟩ : Addr).add 2) (.string t11_S)).frozen? ((⟨w.heap.size, 0, none⟩ : Addr).add 3) = false ∧ (
   (((((w_1.setCell (⟨w.heap.size, 0, none⟩ : Addr) (.int .i64 t11_Kind)).setCell ((⟨w.heap.size, 0, none⟩ : Addr).add 1) (.int .i64 t11_Op)).setCell ((⟨w.heap.size, 0, none⟩ : Addr).add 2) (.string t11_S)).setCell ((⟨w.heap.size, 0, none⟩ : Addr).add 3) (.string t11_T)).cell? ((⟨w.heap.size, 0, none⟩ : Addr).add 4)).isSome = true ∧ (
   ((((w_1.setCell (⟨w.heap.size, 0, none⟩ : Addr) (.int .i64 t11_Kind)).setCell ((⟨w.heap.size, 0, none⟩ : Addr).add 1) (.int .i64 t11_Op)).setCell ((⟨w.heap.size, 0, none⟩ : Addr).add 2) (.string t11_S)).setCell ((⟨w.heap.size, 0, none⟩ : Addr).add 3) (.string t11_T)).frozen? ((⟨w.heap.size, 0, none⟩ : Addr).add 4) = false ∧ (
   ((((((w_1.setCell (⟨w.heap.size, 0, none⟩ : Addr) (.int .i64 t11_Kind)).setCell ((⟨w.heap.size, 0, none⟩ : Addr).add 1) (.int .i64 t11_Op)).setCell ((⟨w.heap.size, 0, none⟩ : Addr).add 2) (.string t11_S)).setCell ((⟨w.heap.size, 0, none⟩ : Addr).add 3) (.string t11_T)).setCell ((⟨w.heap.size, 0, none⟩ : Addr).add 4) (.int .i64 t11_N)).cell? ((⟨w.heap.size, 0, none⟩ : Addr).add 5)).isSome = true ∧ (
   (((((w_1.setCell (⟨w.heap.size, 0, none⟩ : Addr) (.int .i64 t11_Kind)).setCell ((⟨w.heap.size, 0, none⟩ : Addr).add 1) (.int .i64 t11_Op)).setCell ((⟨w.heap.size, 0, none⟩ : Addr).add 2) (.string t11_S)).setCell ((⟨w.heap.size, 0, none⟩ : Addr).add 3) (.string t11_T)).setCell ((⟨w.heap.size, 0, none⟩ : Addr).add 4) (.int .i64 t11_N)).frozen? ((⟨w.heap.size, 0, none⟩ : Addr).add 5) = false ∧ (
   -- plan.go:48
   (0 ≤ (1 : Int) ∧ (1 : Int) ≤ ((l_len : Nat) : Int)) ∧ (
   -- LOOP 17: t15
   ∃ (I : Int → World → Prop) (μ : Int → World → Nat),
   (
    I (0 : Int) ((((((w_1.setCell (⟨w.heap.size, 0, none⟩ : Addr) (.int .i64 t11_Kind)).setCell ((⟨w.heap.size, 0, none⟩ : Addr).add 1) (.int .i64 t11_Op)).setCell ((⟨w.heap.size, 0, none⟩ : Addr).add 2) (.string t11_S)).setCell ((⟨w.heap.size, 0, none⟩ : Addr).add 3) (.string t11_T)).setCell ((⟨w.heap.size, 0, none⟩ : Addr).add 4) (.int .i64 t11_N)).setCell ((⟨w.heap.size, 0, none⟩ : Addr).add 5) (.slice t11_L t11_L_len t11_L_cap)))
   ∧ (
    ∀ (t15 : Int),
    ∀ w_2 : World,
    I t15 w_2 → (
    -- plan.go:48
    (
     (decide (t15 < (((l_len - (1 : Int).toNat) : Nat) : Int))) = true → (
     -- plan.go:48
     ∃ p_1 : Addr,
     (if l_cap = (1 : Int).toNat then l else l.map (·.add ((1 : Int).toNat * 6))) = some p_1 ∧ (
     (0 ≤ t15 ∧ t15 < (((l_len - (1 : Int).toNat) : Nat) : Int)) ∧ (
     ∃ t18_Kind : Int,
     w_2.cell? (p_1.add (t15.toNat * 6)) = some (.int .i64 t18_Kind) ∧ (
     ∃ t18_Op : Int,
     w_2.cell? ((p_1.add (t15.toNat * 6)).add 1) = some (.int .i64 t18_Op) ∧ (
     ∃ t18_S : ByteArray,
     w_2.cell? ((p_1.add (t15.toNat * 6)).add 2) = some (.string t18_S) ∧ (
     ∃ t18_T : ByteArray,
     w_2.cell? ((p_1.add (t15.toNat * 6)).add 3) = some (.string t18_T) ∧ (
     ∃ t18_N : Int,
     w_2.cell? ((p_1.add (t15.toNat * 6)).add 4) = some (.int .i64 t18_N) ∧ (
     ∃ (t18_L : Option Addr) (t18_L_len t18_L_cap : Nat),
     w_2.cell? ((p_1.add (t15.toNat * 6)).add 5) = some (.slice t18_L t18_L_len t18_L_cap) ∧ (
     ∀ b_x : Nat,
     w_2.heap.size ≤ b_x → (
     -- plan.go:49
     ∀ w_3 : World,
     Vc.Fr (fun k => k = b_x) w_2 w_3 → (
     b_x < w_3.heap.size → (
     ∃ t19_Kind : Int,
     w_3.cell? (⟨w.heap.size, 0, none⟩ : Addr) = some (.int .i64 t19_Kind) ∧ (
     ∃ t19_Op : Int,
     w_3.cell? ((⟨w.heap.size, 0, none⟩ : Addr).add 1) = some (.int .i64 t19_Op) ∧ (
     ∃ t19_S : ByteArray,
     w_3.cell? ((⟨w.heap.size, 0, none⟩ : Addr).add 2) = some (.string t19_S) ∧ (
     ∃ t19_T : ByteArray,
     w_3.cell? ((⟨w.heap.size, 0, none⟩ : Addr).add 3) = some (.string t19_T) ∧ (
     ∃ t19_N : Int,
     w_3.cell? ((⟨w.heap.size, 0, none⟩ : Addr).add 4) = some (.int .i64 t19_N) ∧ (
     ∃ (t19_L : Option Addr) (t19_L_len t19_L_cap : Nat),
     w_3.cell? ((⟨w.heap.size, 0, none⟩ : Addr).add 5) = some (.slice t19_L t19_L_len t19_L_cap) ∧ (
     ∀ w_4 : World,
     w_4 = w_3.alloc (.cells #[.int .i64 t19_Kind, .int .i64 t19_Op, .string t19_S, .string t19_T, .int .i64 t19_N, .slice t19_L t19_L_len t19_L_cap, .int .i64 t18_Kind, .int .i64 t18_Op, .string t18_S, .string t18_T, .int .i64 t18_N, .slice t18_L t18_L_len t18_L_cap] 24) → (
     (⟨w.heap.size, 0, none⟩ : Addr).block ≠ b_x ∧ (
     (w_4.cell? (⟨w.heap.size, 0, none⟩ : Addr)).isSome = true ∧ (
     w_4.frozen? (⟨w.heap.size, 0, none⟩ : Addr) = false ∧ (
     ((w_4.setCell (⟨w.heap.size, 0, none⟩ : Addr) (.int .i64 (6 : Int))).cell? ((⟨w.heap.size, 0, none⟩ : Addr).add 1)).isSome = true ∧ (
     (w_4.setCell (⟨w.heap.size, 0, none⟩ : Addr) (.int .i64 (6 : Int))).frozen? ((⟨w.heap.size, 0, none⟩ : Addr).add 1) = false ∧ (
     (((w_4.setCell (⟨w.heap.size, 0, none⟩ : Addr) (.int .i64 (6 : Int))).setCell ((⟨w.heap.size, 0, none⟩ : Addr).add 1) (.int .i64 (18 : Int))).cell? ((⟨w.heap.size, 0, none⟩ : Addr).add 2)).isSome = true ∧ (
     ((w_4.setCell (⟨w.heap.size, 0, none⟩ : Addr) (.int .i64 (6 : Int))).setCell ((⟨w.heap.size, 0, none⟩ : Addr).add 1) (.int .i64 (18 : Int))).frozen? ((⟨w.heap.size, 0, none⟩ : Addr).add 2) = false ∧ (
     ((((w_4.setCell (⟨w.heap.size, 0, none⟩ : Addr) (.int .i64 (6 : Int))).setCell ((⟨w.heap.size, 0, none⟩ : Addr).add 1) (.int .i64 (18 : Int))).setCell ((⟨w.heap.size, 0, none⟩ : Addr).add 2) (.string (⟨#[]⟩ : ByteArray))).cell? ((⟨w.heap.size, 0, none⟩ : Addr).add 3)).isSome = true ∧ (
     (((w_4.setCell (⟨w.heap.size, 0, none⟩ : Addr) (.int .i64 (6 : Int))).setCell ((⟨w.heap.size, 0, none⟩ : Addr).add 1) (.int .i64 (18 : Int))).setCell ((⟨w.heap.size, 0, none⟩ : Addr).add 2) (.string (⟨#[]⟩ : ByteArray))).frozen? ((⟨w.heap.size, 0, none⟩ : Addr).add 3) = false ∧ (
     (((((w_4.setCell (⟨w.heap.size, 0, none⟩ : Addr) (.int .i64 (6 : Int))).setCell ((⟨w.heap.size, 0, none⟩ : Addr).add 1) (.int .i64 (18 : Int))).setCell ((⟨w.heap.size, 0, none⟩ : Addr).add 2) (.string (⟨#[]⟩ : ByteArray))).setCell ((⟨w.heap.size, 0, none⟩ : Addr).add 3) (.string (⟨#[]⟩ : ByteArray))).cell? ((⟨w.heap.size, 0, none⟩ : Addr).add 4)).isSome = true ∧ (
     ((((w_4.setCell (⟨w.heap.size, 0, none⟩ : Addr) (.int .i64 (6 : Int))).setCell ((⟨w.heap.size, 0, none⟩ : Addr).add 1) (.int .i64 (18 : Int))).setCell ((⟨w.heap.size, 0, none⟩ : Addr).add 2) (.string (⟨#[]⟩ : ByteArray))).setCell ((⟨w.heap.size, 0, none⟩ : Addr).add 3) (.string (⟨#[]⟩ : ByteArray))).frozen? ((⟨w.heap.size, 0, none⟩ : Addr).add 4) = false ∧ (
     ((((((w_4.setCell (⟨w.heap.size, 0, none⟩ : Addr) (.int .i64 (6 : Int))).setCell ((⟨w.heap.size, 0, none⟩ : Addr).add 1) (.int .i64 (18 : Int))).setCell ((⟨w.heap.size, 0, none⟩ : Addr).add 2) (.string (⟨#[]⟩ : ByteArray))).setCell ((⟨w.heap.size, 0, none⟩ : Addr).add 3) (.string (⟨#[]⟩ : ByteArray))).setCell ((⟨w.heap.size, 0, none⟩ : Addr).add 4) (.int .i64 (0 : Int))).cell? ((⟨w.heap.size, 0, none⟩ : Addr).add 5)).isSome = true ∧ (
     (((((w_4.setCell (⟨w.heap.size, 0, none⟩ : Addr) (.int .i64 (6 : Int))).setCell ((⟨w.heap.size, 0, none⟩ : Addr).add 1) (.int .i64 (18 : Int))).setCell ((⟨w.heap.size, 0, none⟩ : Addr).add 2) (.string (⟨#[]⟩ : ByteArray))).setCell ((⟨w.heap.size, 0, none⟩ : Addr).add 3) (.string (⟨#[]⟩ : ByteArray))).setCell ((⟨w.heap.size, 0, none⟩ : Addr).add 4) (.int .i64 (0 : Int))).frozen? ((⟨w.heap.size, 0, none⟩ : Addr).add 5) = false ∧ (
     -- plan.go:48
     I (IntKind.i64.wrap (t15 + (1 : Int))) ((((((w_4.setCell (⟨w.heap.size, 0, none⟩ : Addr) (.int .i64 (6 : Int))).setCell ((⟨w.heap.size, 0, none⟩ : Addr).add 1) (.int .i64 (18 : Int))).setCell ((⟨w.heap.size, 0, none⟩ : Addr).add 2) (.string (⟨#[]⟩ : ByteArray))).setCell ((⟨w.heap.size, 0, none⟩ : Addr).add 3) (.string (⟨#[]⟩ : ByteArray))).setCell ((⟨w.heap.size, 0, none⟩ : Addr).add 4) (.int .i64 (0 : Int))).setCell ((⟨w.heap.size, 0, none⟩ : Addr).add 5) (.slice (some (⟨w_3.heap.size, 0, none⟩ : Addr)) 2 2)) ∧ μ (IntKind.i64.wrap (t15 + (1 : Int))) ((((((w_4.setCell (⟨w.heap.size, 0, none⟩ : Addr) (.int .i64 (6 : Int))).setCell ((⟨w.heap.size, 0, none⟩ : Addr).add 1) (.int .i64 (18 : Int))).setCell ((⟨w.heap.size, 0, none⟩ : Addr).add 2) (.string (⟨#[]⟩ : ByteArray))).setCell ((⟨w.heap.size, 0, none⟩ : Addr).add 3) (.string (⟨#[]⟩ : ByteArray))).setCell ((⟨w.heap.size, 0, none⟩ : Addr).add 4) (.int .i64 (0 : Int))).setCell ((⟨w.heap.size, 0, none⟩ : Addr).add 5) (.slice (some (⟨w_3.heap.size, 0, none⟩ : Addr)) 2 2)) < μ t15 w_2)))))))))))))))))))))))))))))))))
    ∧ (
     (decide (t15 < (((l_len - (1 : Int).toNat) : Nat) : Int))) = false → (
     -- plan.go:51
     R (.pointer (some (⟨w.heap.size, 0, none⟩ : Addr))) w_2))))))))))))))))))))))))))))
def Sh.plan_Join_h : Vc.H := (.seq (.reg (.p 0 0 (.done 0))) (.seq (.seq (.reg (.p 0 0 (.p 1 0 (.p 2 0 (.done 0))))) (.cond false (.seq (.reg (.p 0 0 (.done 0))) (.nil 0)) (.nil 0))) (.seq (.reg (.p 0 0 (.p 1 1 (.o 2 0 (.o 3 0 (.o 4 0 (.done 0))))))) (.seq (.seq (.reg (.p 0 0 (.p 1 0 (.p 2 0 (.p 3 0 (.done 0)))))) (.block (.loop [((0, 15), .int .i64)] [(0, 16), (0, 17), (0, 18), (0, 5), (0, 19), (0, 20), (0, 21), (0, 22), (0, 23)] (.seq (.reg (.p 0 0 (.done 0))) (.seq (.cond false (.nil 0) (.nil 0)) (.seq (.block (.seq (.reg (.p 0 1 (.o 1 0 (.o 2 1 (.o 3 0 (.done 0)))))) (.reg (.o 0 0 (.p 1 0 (.o 2 0 (.p 3 0 (.o 4 0 (.done 0))))))))) (.reg (.p 0 0 (.p 1 0 (.done 0)))))))))) (.seq (.reg (.p 0 0 (.done 0))) (.nil 0))))))
theorem Sh.plan_Join_eq (l : Option Addr) (l_len l_cap : Nat) (w : World) (R : Value → World → Prop) : Sh.plan_Join l l_len l_cap w R = Vc.vcFn Try.prog tab okF Try.f10 Sh.plan_Join_h [.slice l l_len l_cap] w R := by kernel_rfl
theorem Sh.plan_Join_calls (l : Option Addr) (l_len l_cap : Nat) {w : World} {R : Value → World → Prop} (h : Sh.plan_Join l l_len l_cap w R) : Calls Try.prog 10 #[.slice l l_len l_cap] w fun e w' => ∃ v, e = .returned v ∧ R v w' :=
  Vc.fn_calls mixed tabOk okF_ok Try.func10 (by kernel_rfl) (by kernel_rfl) (by rw [← Sh.plan_Join_eq l l_len l_cap]; exact h)

def Sh.eval_Safe (n_Kind : Int) (n_Op : Int) (n_S : ByteArray) (n_T : ByteArray) (n_N : Int) (n_L : Option Addr) (n_L_len n_L_cap : Nat) (w : World) (R : Value → World → Prop) : Prop :=
  -- eval.go:295
  ∀ b_n : Nat,
  w.heap.size ≤ b_n → (
  -- eval.go:296
  -- LOOP 7: t8
  ∃ (I : Int → World → Prop) (μ : Int → World → Nat),
  (
   ∀ w_1 : World,
   Vc.Fr (fun k => k = b_n) w w_1 → (
   b_n < w_1.heap.size → (
   I (0 : Int) w_1)))
  ∧ (
   ∀ (t8 : Int),
   ∀ w_2 : World,
   I t8 w_2 → (
   -- eval.go:296
   (
    (decide (t8 < ((n_L_len : Nat) : Int))) = true → (
    -- eval.go:296
    ∃ p : Addr,
    n_L = some p ∧ (
    (0 ≤ t8 ∧ t8 < ((n_L_len : Nat) : Int)) ∧ (
    ∃ t11_Kind : Int,
    w_2.cell? (p.add (t8.toNat * 6)) = some (.int .i64 t11_Kind) ∧ (
    ∃ t11_Op : Int,
    w_2.cell? ((p.add (t8.toNat * 6)).add 1) = some (.int .i64 t11_Op) ∧ (
    ∃ t11_S : ByteArray,
    w_2.cell? ((p.add (t8.toNat * 6)).add 2) = some (.string t11_S) ∧ (
    ∃ t11_T : ByteArray,
    w_2.cell? ((p.add (t8.toNat * 6)).add 3) = some (.string t11_T) ∧ (
    ∃ t11_N : Int,
    w_2.cell? ((p.add (t8.toNat * 6)).add 4) = some (.int .i64 t11_N) ∧ (
    ∃ (t11_L : Option Addr) (t11_L_len t11_L_cap : Nat),
    w_2.cell? ((p.add (t8.toNat * 6)).add 5) = some (.slice t11_L t11_L_len t11_L_cap) ∧ (
    ∀ b_x : Nat,
    w_2.heap.size ≤ b_x → (
    b_x ≠ b_n → (
    -- eval.go:297
    ∀ w_3 : World,
    Vc.Fr (fun k => k = b_x ∨ k = b_n) w_2 w_3 → (
    b_x < w_3.heap.size → (
    b_n < w_3.heap.size → (
    Calls Try.prog 11 #[.agg #[.int .i64 t11_Kind, .int .i64 t11_Op, .string t11_S, .string t11_T, .int .i64 t11_N, .slice t11_L t11_L_len t11_L_cap]] w_3 fun (e : Ending) (w_4 : World) => (
    ∃ r_Safe : Bool,
    e = .returned (.bool r_Safe) ∧ (
    (b_x < w_3.heap.size → w_4.heap[b_x]? = w_3.heap[b_x]?) ∧ (
    (b_n < w_3.heap.size → w_4.heap[b_n]? = w_3.heap[b_n]?) ∧ (
    (
     (!r_Safe) = true → (
     -- eval.go:298
     R (.bool false) w_4))
    ∧ (
     (!r_Safe) = false → (
     -- eval.go:296
     I (IntKind.i64.wrap (t8 + (1 : Int))) w_4 ∧ μ (IntKind.i64.wrap (t8 + (1 : Int))) w_4 < μ t8 w_2)))))))))))))))))))))
   ∧ (
    (decide (t8 < ((n_L_len : Nat) : Int))) = false → (
    -- eval.go:301
    Calls Try.prog 20 #[.agg #[.int .i64 n_Kind, .int .i64 n_Op, .string n_S, .string n_T, .int .i64 n_N, .slice n_L n_L_len n_L_cap]] w_2 fun (e : Ending) (w_5 : World) => (
    ∃ r_alone : Bool,
    e = .returned (.bool r_alone) ∧ (
    (b_n < w_2.heap.size → w_5.heap[b_n]? = w_2.heap[b_n]?) ∧ (
    R (.bool r_alone) w_5))))))))
def Sh.eval_Safe_h : Vc.H := (.seq (.reg (.o 0 1 (.p 1 0 (.done 0)))) (.seq (.seq (.reg (.p 0 0 (.p 1 0 (.p 2 0 (.p 3 0 (.done 0)))))) (.block (.loop [((0, 8), .int .i64)] [(0, 9), (0, 10), (0, 11), (0, 4), (0, 12), (0, 13), (0, 14), (0, 2), (0, 15)] (.seq (.reg (.p 0 0 (.done 0))) (.seq (.cond false (.nil 0) (.nil 0)) (.seq (.block (.seq (.reg (.p 0 1 (.o 1 0 (.o 2 1 (.o 3 0 (.done 0)))))) (.seq (.reg (.p 0 0 (.o 1 0 (.p 2 0 (.done 0))))) (.cond false (.seq (.reg (.p 0 0 (.done 0))) (.nil 0)) (.nil 0))))) (.reg (.p 0 0 (.p 1 0 (.done 0)))))))))) (.seq (.reg (.p 0 0 (.o 1 0 (.p 2 0 (.done 0))))) (.nil 0))))
theorem Sh.eval_Safe_eq (n_Kind : Int) (n_Op : Int) (n_S : ByteArray) (n_T : ByteArray) (n_N : Int) (n_L : Option Addr) (n_L_len n_L_cap : Nat) (w : World) (R : Value → World → Prop) : Sh.eval_Safe n_Kind n_Op n_S n_T n_N n_L n_L_len n_L_cap w R = Vc.vcFn Try.prog tab okF Try.f11 Sh.eval_Safe_h [.agg #[.int .i64 n_Kind, .int .i64 n_Op, .string n_S, .string n_T, .int .i64 n_N, .slice n_L n_L_len n_L_cap]] w R := by kernel_rfl
theorem Sh.eval_Safe_calls (n_Kind : Int) (n_Op : Int) (n_S : ByteArray) (n_T : ByteArray) (n_N : Int) (n_L : Option Addr) (n_L_len n_L_cap : Nat) {w : World} {R : Value → World → Prop} (h : Sh.eval_Safe n_Kind n_Op n_S n_T n_N n_L n_L_len n_L_cap w R) : Calls Try.prog 11 #[.agg #[.int .i64 n_Kind, .int .i64 n_Op, .string n_S, .string n_T, .int .i64 n_N, .slice n_L n_L_len n_L_cap]] w fun e w' => ∃ v, e = .returned v ∧ R v w' :=
  Vc.fn_calls mixed tabOk okF_ok Try.func11 (by kernel_rfl) (by kernel_rfl) (by rw [← Sh.eval_Safe_eq n_Kind n_Op n_S n_T n_N n_L n_L_len n_L_cap]; exact h)

def Sh.plan_Lead (l : Option Addr) (l_len l_cap : Nat) (w : World) (R : Value → World → Prop) : Prop :=
  -- plan.go:55
  -- plan.go:56
  -- LOOP 7: n
  ∃ (I : Int → World → Prop) (μ : Int → World → Nat),
  (
   I (0 : Int) w)
  ∧ (
   ∀ (n : Int),
   ∀ w_1 : World,
   I n w_1 → (
   -- plan.go:57
   ((decide (n < ((l_len : Nat) : Int))) = true → (decide (n < ((l_len : Nat) : Int))) = true) ∧ (
   ((decide (n < ((l_len : Nat) : Int))) = true → (decide (n < ((l_len : Nat) : Int))) = true) ∧ (
   ∃ p : Addr,
   ((decide (n < ((l_len : Nat) : Int))) = true → l = some p ∧ (0 ≤ n ∧ n < ((l_len : Nat) : Int))) ∧ (
   (
    (decide (n < ((l_len : Nat) : Int))) = true → (
    (decide (n < ((l_len : Nat) : Int))) = true ∧ (
    ∃ t12_Kind : Int,
    w_1.cell? (p.add (n.toNat * 6)) = some (.int .i64 t12_Kind) ∧ (
    ∃ t12_Op : Int,
    w_1.cell? ((p.add (n.toNat * 6)).add 1) = some (.int .i64 t12_Op) ∧ (
    ∃ t12_S : ByteArray,
    w_1.cell? ((p.add (n.toNat * 6)).add 2) = some (.string t12_S) ∧ (
    ∃ t12_T : ByteArray,
    w_1.cell? ((p.add (n.toNat * 6)).add 3) = some (.string t12_T) ∧ (
    ∃ t12_N : Int,
    w_1.cell? ((p.add (n.toNat * 6)).add 4) = some (.int .i64 t12_N) ∧ (
    ∃ (t12_L : Option Addr) (t12_L_len t12_L_cap : Nat),
    w_1.cell? ((p.add (n.toNat * 6)).add 5) = some (.slice t12_L t12_L_len t12_L_cap) ∧ (
    Calls Try.prog 11 #[.agg #[.int .i64 t12_Kind, .int .i64 t12_Op, .string t12_S, .string t12_T, .int .i64 t12_N, .slice t12_L t12_L_len t12_L_cap]] w_1 fun (e : Ending) (w_2 : World) => (
    ∃ r_Safe : Bool,
    e = .returned (.bool r_Safe) ∧ (
    (
     r_Safe = true → (
     -- plan.go:58
     I (IntKind.i64.wrap (n + (1 : Int))) w_2 ∧ μ (IntKind.i64.wrap (n + (1 : Int))) w_2 < μ n w_1))
    ∧ (
     r_Safe = false → (
     -- plan.go:60
     R (.int .i64 n) w_2)))))))))))))
   ∧ (
    (decide (n < ((l_len : Nat) : Int))) = false → (
    -- plan.go:60
    R (.int .i64 n) w_1)))))))
def Sh.plan_Lead_h : Vc.H := (.seq (.reg (.p 0 0 (.done 0))) (.seq (.reg (.p 0 0 (.done 0))) (.seq (.block (.loop [((0, 3), .int .i64)] [(0, 4), (0, 5), (0, 6), (0, 7), (0, 8), (0, 9), (0, 10), (0, 11), (0, 12), (0, 13), (0, 14), (0, 15), (0, 16)] (.seq (.seq (.reg (.p 0 0 (.p 1 0 (.p 2 0 (.p 3 0 (.p 4 0 (.p 5 0 (.p 6 0 (.p 7 1 (.s 8 (.o 8 0 (.o 9 0 (.p 10 1 (.done 0)))) (.sk 8 (.sk 9 (.p 10 1 (.done 1)))))))))))))) (.alt (.cond false (.nil 0) (.nil 0)) (.cond true (.nil 0) (.nil 0)))) (.block (.reg (.p 0 0 (.p 1 0 (.p 2 0 (.done 0))))))))) (.seq (.reg (.p 0 0 (.p 1 0 (.done 0)))) (.nil 0)))))
theorem Sh.plan_Lead_eq (l : Option Addr) (l_len l_cap : Nat) (w : World) (R : Value → World → Prop) : Sh.plan_Lead l l_len l_cap w R = Vc.vcFn Try.prog tab okF Try.f12 Sh.plan_Lead_h [.slice l l_len l_cap] w R := by kernel_rfl
theorem Sh.plan_Lead_calls (l : Option Addr) (l_len l_cap : Nat) {w : World} {R : Value → World → Prop} (h : Sh.plan_Lead l l_len l_cap w R) : Calls Try.prog 12 #[.slice l l_len l_cap] w fun e w' => ∃ v, e = .returned v ∧ R v w' :=
  Vc.fn_calls mixed tabOk okF_ok Try.func12 (by kernel_rfl) (by kernel_rfl) (by rw [← Sh.plan_Lead_eq l l_len l_cap]; exact h)

def Sh.law18_small (n_Kind : Int) (n_Op : Int) (n_S : ByteArray) (n_T : ByteArray) (n_N : Int) (n_L : Option Addr) (n_L_len n_L_cap : Nat) (deep : Int) (left : Addr) (w : World) (R : Value → World → Prop) : Prop :=
  -- law.go:26
  ∀ b_n : Nat,
  w.heap.size ≤ b_n → (
  -- law.go:27
  ∀ w_1 : World,
  Vc.Fr (fun k => k = b_n) w w_1 → (
  b_n < w_1.heap.size → (
  ∃ t10 : Int,
  w_1.cell? left = some (.int .i64 t10) ∧ (
  left.block ≠ b_n ∧ (
  (w_1.cell? left).isSome = true ∧ (
  w_1.frozen? left = false ∧ (
  -- law.go:28
  ∃ t15 : Int,
  (w_1.setCell left (.int .i64 (IntKind.i64.wrap (t10 - (1 : Int))))).cell? left = some (.int .i64 t15) ∧ (
  ((!(decide (t15 < (0 : Int)))) = true → (!(decide (t15 < (0 : Int)))) = true) ∧ (
  ((decide (t15 < (0 : Int))) = false → (!(decide (t15 < (0 : Int)))) = true) ∧ (
  ((!((decide (t15 < (0 : Int))) || (decide (deep > (40 : Int))))) = true → (!((decide (t15 < (0 : Int))) || (decide (deep > (40 : Int))))) = true) ∧ (
  ((!((decide (t15 < (0 : Int))) || (decide (deep > (40 : Int))))) = true → (!((decide (t15 < (0 : Int))) || (decide (deep > (40 : Int))))) = true) ∧ (
  ((!((decide (t15 < (0 : Int))) || (decide (deep > (40 : Int))))) = true → (!((decide (t15 < (0 : Int))) || (decide (deep > (40 : Int))))) = true) ∧ (
  (((decide (t15 < (0 : Int))) || (decide (deep > (40 : Int)))) = false → (!((decide (t15 < (0 : Int))) || (decide (deep > (40 : Int))))) = true) ∧ (
  ((!(((decide (t15 < (0 : Int))) || (decide (deep > (40 : Int)))) || (decide (((n_L_len : Nat) : Int) > (20 : Int))))) = true → (!(((decide (t15 < (0 : Int))) || (decide (deep > (40 : Int)))) || (decide (((n_L_len : Nat) : Int) > (20 : Int))))) = true) ∧ (
  ((!(((decide (t15 < (0 : Int))) || (decide (deep > (40 : Int)))) || (decide (((n_L_len : Nat) : Int) > (20 : Int))))) = true → (!(((decide (t15 < (0 : Int))) || (decide (deep > (40 : Int)))) || (decide (((n_L_len : Nat) : Int) > (20 : Int))))) = true) ∧ (
  ((!(((decide (t15 < (0 : Int))) || (decide (deep > (40 : Int)))) || (decide (((n_L_len : Nat) : Int) > (20 : Int))))) = true → (!(((decide (t15 < (0 : Int))) || (decide (deep > (40 : Int)))) || (decide (((n_L_len : Nat) : Int) > (20 : Int))))) = true) ∧ (
  ((((decide (t15 < (0 : Int))) || (decide (deep > (40 : Int)))) || (decide (((n_L_len : Nat) : Int) > (20 : Int)))) = false → (!(((decide (t15 < (0 : Int))) || (decide (deep > (40 : Int)))) || (decide (((n_L_len : Nat) : Int) > (20 : Int))))) = true) ∧ (
  ((!((((decide (t15 < (0 : Int))) || (decide (deep > (40 : Int)))) || (decide (((n_L_len : Nat) : Int) > (20 : Int)))) || (decide ((n_S.size : Int) > (500 : Int))))) = true → (!((((decide (t15 < (0 : Int))) || (decide (deep > (40 : Int)))) || (decide (((n_L_len : Nat) : Int) > (20 : Int)))) || (decide ((n_S.size : Int) > (500 : Int))))) = true) ∧ (
  ((!((((decide (t15 < (0 : Int))) || (decide (deep > (40 : Int)))) || (decide (((n_L_len : Nat) : Int) > (20 : Int)))) || (decide ((n_S.size : Int) > (500 : Int))))) = true → (!((((decide (t15 < (0 : Int))) || (decide (deep > (40 : Int)))) || (decide (((n_L_len : Nat) : Int) > (20 : Int)))) || (decide ((n_S.size : Int) > (500 : Int))))) = true) ∧ (
  ((!((((decide (t15 < (0 : Int))) || (decide (deep > (40 : Int)))) || (decide (((n_L_len : Nat) : Int) > (20 : Int)))) || (decide ((n_S.size : Int) > (500 : Int))))) = true → (!((((decide (t15 < (0 : Int))) || (decide (deep > (40 : Int)))) || (decide (((n_L_len : Nat) : Int) > (20 : Int)))) || (decide ((n_S.size : Int) > (500 : Int))))) = true) ∧ (
  (((((decide (t15 < (0 : Int))) || (decide (deep > (40 : Int)))) || (decide (((n_L_len : Nat) : Int) > (20 : Int)))) || (decide ((n_S.size : Int) > (500 : Int)))) = false → (!((((decide (t15 < (0 : Int))) || (decide (deep > (40 : Int)))) || (decide (((n_L_len : Nat) : Int) > (20 : Int)))) || (decide ((n_S.size : Int) > (500 : Int))))) = true) ∧ (
  (
   (((((decide (t15 < (0 : Int))) || (decide (deep > (40 : Int)))) || (decide (((n_L_len : Nat) : Int) > (20 : Int)))) || (decide ((n_S.size : Int) > (500 : Int)))) || (decide ((n_T.size : Int) > (50 : Int)))) = true → (
   -- law.go:29
   R (.bool false) (w_1.setCell left (.int .i64 (IntKind.i64.wrap (t10 - (1 : Int)))))))
  ∧ (
   (((((decide (t15 < (0 : Int))) || (decide (deep > (40 : Int)))) || (decide (((n_L_len : Nat) : Int) > (20 : Int)))) || (decide ((n_S.size : Int) > (500 : Int)))) || (decide ((n_T.size : Int) > (50 : Int)))) = false → (
   -- law.go:31
   -- LOOP 17: i
   ∃ (I : Int → World → Prop) (μ : Int → World → Nat),
   (
    I (0 : Int) (w_1.setCell left (.int .i64 (IntKind.i64.wrap (t10 - (1 : Int))))))
   ∧ (
    ∀ (i : Int),
    ∀ w_2 : World,
    I i w_2 → (
    -- law.go:31
    (
     (decide (i < ((n_L_len : Nat) : Int))) = true → (
     -- law.go:32
     ∃ p : Addr,
     n_L = some p ∧ (
     (0 ≤ i ∧ i < ((n_L_len : Nat) : Int)) ∧ (
     ∃ t50_Kind : Int,
     w_2.cell? (p.add (i.toNat * 6)) = some (.int .i64 t50_Kind) ∧ (
     ∃ t50_Op : Int,
     w_2.cell? ((p.add (i.toNat * 6)).add 1) = some (.int .i64 t50_Op) ∧ (
     ∃ t50_S : ByteArray,
     w_2.cell? ((p.add (i.toNat * 6)).add 2) = some (.string t50_S) ∧ (
     ∃ t50_T : ByteArray,
     w_2.cell? ((p.add (i.toNat * 6)).add 3) = some (.string t50_T) ∧ (
     ∃ t50_N : Int,
     w_2.cell? ((p.add (i.toNat * 6)).add 4) = some (.int .i64 t50_N) ∧ (
     ∃ (t50_L : Option Addr) (t50_L_len t50_L_cap : Nat),
     w_2.cell? ((p.add (i.toNat * 6)).add 5) = some (.slice t50_L t50_L_len t50_L_cap) ∧ (
     Calls Try.prog 14 #[.agg #[.int .i64 t50_Kind, .int .i64 t50_Op, .string t50_S, .string t50_T, .int .i64 t50_N, .slice t50_L t50_L_len t50_L_cap], .int .i64 (IntKind.i64.wrap (deep + (1 : Int))), .pointer (some left)] w_2 fun (e : Ending) (w_3 : World) => (
     ∃ r_small : Bool,
     e = .returned (.bool r_small) ∧ (
     (b_n < w_2.heap.size → w_3.heap[b_n]? = w_2.heap[b_n]?) ∧ (
     (
      (!r_small) = true → (
      -- law.go:33
      R (.bool false) w_3))
     ∧ (
      (!r_small) = false → (
      -- law.go:31
      I (IntKind.i64.wrap (i + (1 : Int))) w_3 ∧ μ (IntKind.i64.wrap (i + (1 : Int))) w_3 < μ i w_2)))))))))))))))
    ∧ (
     (decide (i < ((n_L_len : Nat) : Int))) = false → (
     -- law.go:36
     R (.bool true) w_2))))))))))))))))))))))))))))
def Sh.law18_small_h : Vc.H := (.seq (.reg (.o 0 1 (.p 1 0 (.done 0)))) (.seq (.reg (.p 0 0 (.p 1 0 (.o 2 0 (.p 3 0 (.p 4 0 (.o 5 0 (.done 0)))))))) (.seq (.seq (.reg (.p 0 0 (.p 1 0 (.o 2 0 (.p 3 0 (.p 4 0 (.p 5 0 (.p 6 0 (.p 7 0 (.p 8 0 (.p 9 0 (.p 10 0 (.p 11 0 (.p 12 0 (.p 13 0 (.p 14 0 (.p 15 0 (.p 16 0 (.p 17 0 (.p 18 0 (.p 19 0 (.p 20 0 (.p 21 0 (.p 22 0 (.p 23 0 (.p 24 0 (.p 25 0 (.done 0)))))))))))))))))))))))))))) (.cond false (.seq (.reg (.p 0 0 (.done 0))) (.nil 0)) (.nil 0))) (.seq (.seq (.reg (.p 0 0 (.done 0))) (.block (.loop [((0, 7), .int .i64)] [(0, 39), (0, 40), (0, 41), (0, 42), (0, 43), (0, 46), (0, 47), (0, 48), (0, 49), (0, 50), (0, 51), (0, 52), (0, 53), (0, 54), (0, 55), (0, 6), (0, 44), (0, 45)] (.seq (.seq (.reg (.p 0 0 (.p 1 0 (.p 2 0 (.p 3 0 (.p 4 0 (.done 0))))))) (.cond false (.nil 0) (.nil 0))) (.seq (.block (.seq (.reg (.p 0 0 (.p 1 0 (.p 2 0 (.p 3 1 (.o 4 0 (.p 5 0 (.p 6 0 (.p 7 0 (.o 8 0 (.p 9 0 (.done 0)))))))))))) (.cond false (.seq (.reg (.p 0 0 (.done 0))) (.nil 0)) (.nil 0)))) (.reg (.p 0 0 (.p 1 0 (.p 2 0 (.done 0)))))))))) (.seq (.reg (.p 0 0 (.done 0))) (.nil 0))))))
theorem Sh.law18_small_eq (n_Kind : Int) (n_Op : Int) (n_S : ByteArray) (n_T : ByteArray) (n_N : Int) (n_L : Option Addr) (n_L_len n_L_cap : Nat) (deep : Int) (left : Addr) (w : World) (R : Value → World → Prop) : Sh.law18_small n_Kind n_Op n_S n_T n_N n_L n_L_len n_L_cap deep left w R = Vc.vcFn Try.prog tab okF Try.f14 Sh.law18_small_h [.agg #[.int .i64 n_Kind, .int .i64 n_Op, .string n_S, .string n_T, .int .i64 n_N, .slice n_L n_L_len n_L_cap], .int .i64 deep, .pointer (some left)] w R := by kernel_rfl
theorem Sh.law18_small_calls (n_Kind : Int) (n_Op : Int) (n_S : ByteArray) (n_T : ByteArray) (n_N : Int) (n_L : Option Addr) (n_L_len n_L_cap : Nat) (deep : Int) (left : Addr) {w : World} {R : Value → World → Prop} (h : Sh.law18_small n_Kind n_Op n_S n_T n_N n_L n_L_len n_L_cap deep left w R) : Calls Try.prog 14 #[.agg #[.int .i64 n_Kind, .int .i64 n_Op, .string n_S, .string n_T, .int .i64 n_N, .slice n_L n_L_len n_L_cap], .int .i64 deep, .pointer (some left)] w fun e w' => ∃ v, e = .returned v ∧ R v w' :=
  Vc.fn_calls mixed tabOk okF_ok Try.func14 (by kernel_rfl) (by kernel_rfl) (by rw [← Sh.law18_small_eq n_Kind n_Op n_S n_T n_N n_L n_L_len n_L_cap deep left]; exact h)

def Sh.plan_Empty (r_Lo : ByteArray) (r_Hi : ByteArray) (r_Open : Bool) (w : World) (R : Value → World → Prop) : Prop :=
  -- plan.go:262
  ∀ b_r : Nat,
  w.heap.size ≤ b_r → (
  -- plan.go:262
  ((!r_Open) = true → (!r_Open) = true) ∧ (
  ((!r_Open) = true → (!r_Open) = true) ∧ (
  ((!r_Open) = true → (!r_Open) = true) ∧ (
  ((!r_Open) = true → (!r_Open) = true) ∧ (
  ((!r_Open) = true → (!r_Open) = true) ∧ (
  ∀ w_1 : World,
  Vc.Fr (fun k => k = b_r) w w_1 → (
  b_r < w_1.heap.size → (
  R (.bool ((!r_Open) && (Op.bytesLess r_Hi.toList r_Lo.toList || (r_Hi.toList == r_Lo.toList)))) w_1))))))))
def Sh.plan_Empty_h : Vc.H := (.seq (.reg (.o 0 1 (.p 1 0 (.done 0)))) (.seq (.reg (.p 0 0 (.p 1 0 (.p 2 0 (.p 3 0 (.p 4 0 (.p 5 0 (.p 6 0 (.p 7 0 (.p 8 0 (.p 9 0 (.p 10 0 (.done 0))))))))))))) (.nil 0)))
theorem Sh.plan_Empty_eq (r_Lo : ByteArray) (r_Hi : ByteArray) (r_Open : Bool) (w : World) (R : Value → World → Prop) : Sh.plan_Empty r_Lo r_Hi r_Open w R = Vc.vcFn Try.prog tab okF Try.f15 Sh.plan_Empty_h [.agg #[.string r_Lo, .string r_Hi, .bool r_Open]] w R := by kernel_rfl
theorem Sh.plan_Empty_calls (r_Lo : ByteArray) (r_Hi : ByteArray) (r_Open : Bool) {w : World} {R : Value → World → Prop} (h : Sh.plan_Empty r_Lo r_Hi r_Open w R) : Calls Try.prog 15 #[.agg #[.string r_Lo, .string r_Hi, .bool r_Open]] w fun e w' => ∃ v, e = .returned v ∧ R v w' :=
  Vc.fn_calls mixed tabOk okF_ok Try.func15 (by kernel_rfl) (by kernel_rfl) (by rw [← Sh.plan_Empty_eq r_Lo r_Hi r_Open]; exact h)

def Sh.slices_Clip_api_Node_api_Node (s : Option Addr) (s_len s_cap : Nat) (w : World) (R : Value → World → Prop) : Prop :=
  -- slices.go:435
  -- slices.go:436
  ∃ (t8 : Option Addr) (t8_len t8_cap : Nat),
  ∃ w_1 : World,
  (Instr.sliceAt 22 (.slice s s_len s_cap) none (some (.int .i64 ((s_len : Nat) : Int))) (some (.int .i64 ((s_len : Nat) : Int)))).run Try.prog w = .ok (.slice t8 t8_len t8_cap) w_1 ∧ (
  R (.slice t8 t8_len t8_cap) w_1)
def Sh.slices_Clip_api_Node_api_Node_h : Vc.H := (.seq (.reg (.p 0 0 (.done 0))) (.seq (.reg (.p 0 0 (.p 1 0 (.p 2 0 (.p 3 0 (.p 4 0 (.o 5 9 (.p 6 0 (.done 0))))))))) (.nil 0)))
theorem Sh.slices_Clip_api_Node_api_Node_eq (s : Option Addr) (s_len s_cap : Nat) (w : World) (R : Value → World → Prop) : Sh.slices_Clip_api_Node_api_Node s s_len s_cap w R = Vc.vcFn Try.prog tab okF Try.f18 Sh.slices_Clip_api_Node_api_Node_h [.slice s s_len s_cap] w R := by kernel_rfl
theorem Sh.slices_Clip_api_Node_api_Node_calls (s : Option Addr) (s_len s_cap : Nat) {w : World} {R : Value → World → Prop} (h : Sh.slices_Clip_api_Node_api_Node s s_len s_cap w R) : Calls Try.prog 18 #[.slice s s_len s_cap] w fun e w' => ∃ v, e = .returned v ∧ R v w' :=
  Vc.fn_calls mixed tabOk okF_ok Try.func18 (by kernel_rfl) (by kernel_rfl) (by rw [← Sh.slices_Clip_api_Node_api_Node_eq s s_len s_cap]; exact h)

def Sh.slices_Concat_api_Node_api_Node (slices : Option Addr) (slices_len slices_cap : Nat) (w : World) (R : Value → World → Prop) : Prop :=
  -- slices.go:491
  -- slices.go:492
  -- slices.go:493
  -- LOOP 9: size, t11
  ∃ (I : Int → Int → World → Prop) (μ : Int → Int → World → Nat),
  (
   I (0 : Int) (0 : Int) w)
  ∧ (
   ∀ (size : Int) (t11 : Int),
   ∀ w_1 : World,
   I size t11 w_1 → (
   -- slices.go:493
   (
    (decide (t11 < ((slices_len : Nat) : Int))) = true → (
    -- slices.go:493
    ∃ p : Addr,
    slices = some p ∧ (
    (0 ≤ t11 ∧ t11 < ((slices_len : Nat) : Int)) ∧ (
    ∃ (t14 : Option Addr) (t14_len t14_cap : Nat),
    w_1.cell? (p.add (t11.toNat * 1)) = some (.slice t14 t14_len t14_cap) ∧ (
    -- slices.go:494
    -- slices.go:495
    (
     (decide ((IntKind.i64.wrap (size + ((t14_len : Nat) : Int))) < (0 : Int))) = true → (
     -- slices.go:496
     ∃ t21 : Value,
     ∃ w_2 : World,
     (Instr.makeInterface 9 (.string (⟨#[108, 101, 110, 32, 111, 117, 116, 32, 111, 102, 32, 114, 97, 110, 103, 101]⟩ : ByteArray))).run Try.prog w_1 = .ok (t21) w_2 ∧ (
     False)))
    ∧ (
     (decide ((IntKind.i64.wrap (size + ((t14_len : Nat) : Int))) < (0 : Int))) = false → (
     -- slices.go:493
     I (IntKind.i64.wrap (size + ((t14_len : Nat) : Int))) (IntKind.i64.wrap (t11 + (1 : Int))) w_1 ∧ μ (IntKind.i64.wrap (size + ((t14_len : Nat) : Int))) (IntKind.i64.wrap (t11 + (1 : Int))) w_1 < μ size t11 w_1)))))))
   ∧ (
    (decide (t11 < ((slices_len : Nat) : Int))) = false → (
    -- slices.go:502
    Calls Try.prog 32 #[.slice none 0 0, .int .i64 size] w_1 fun (e : Ending) (w_3 : World) => (
    ∃ (r_Grow : Option Addr) (r_Grow_len r_Grow_cap : Nat),
    e = .returned (.slice r_Grow r_Grow_len r_Grow_cap) ∧ (
    -- slices.go:503
    -- LOOP 34: newslice, t27
    ∃ (I_1 : Option Addr → Nat → Nat → Int → World → Prop) (μ_1 : Option Addr → Nat → Nat → Int → World → Nat),
    (
     I_1 r_Grow r_Grow_len r_Grow_cap (0 : Int) w_3)
    ∧ (
     ∀ (newslice : Option Addr) (newslice_len newslice_cap : Nat) (t27 : Int),
     ∀ w_4 : World,
     I_1 newslice newslice_len newslice_cap t27 w_4 → (
     -- slices.go:503
     (
      (decide (t27 < ((slices_len : Nat) : Int))) = true → (
      -- slices.go:503
      ∃ p_1 : Addr,
      slices = some p_1 ∧ (
      (0 ≤ t27 ∧ t27 < ((slices_len : Nat) : Int)) ∧ (
      ∃ (t30 : Option Addr) (t30_len t30_cap : Nat),
      w_4.cell? (p_1.add (t27.toNat * 1)) = some (.slice t30 t30_len t30_cap) ∧ (
      -- slices.go:504
      ∃ (t33 : Option Addr) (t33_len t33_cap : Nat),
      ∃ w_5 : World,
      (Builtin.append_ #[22, 22] 22 #[.slice newslice newslice_len newslice_cap, .slice t30 t30_len t30_cap]).run Try.prog w_4 = .ok (.slice t33 t33_len t33_cap) w_5 ∧ (
      -- slices.go:503
      I_1 t33 t33_len t33_cap (IntKind.i64.wrap (t27 + (1 : Int))) w_5 ∧ μ_1 t33 t33_len t33_cap (IntKind.i64.wrap (t27 + (1 : Int))) w_5 < μ_1 newslice newslice_len newslice_cap t27 w_4))))))
     ∧ (
      (decide (t27 < ((slices_len : Nat) : Int))) = false → (
      -- slices.go:506
      R (.slice newslice newslice_len newslice_cap) w_4))))))))))
def Sh.slices_Concat_api_Node_api_Node_h : Vc.H := (.seq (.reg (.p 0 0 (.done 0))) (.seq (.reg (.p 0 0 (.done 0))) (.seq (.seq (.reg (.p 0 0 (.p 1 0 (.p 2 0 (.done 0))))) (.block (.loop [((0, 3), .int .i64), ((0, 11), .int .i64)] [(0, 12), (0, 13), (0, 14), (0, 5), (0, 15), (0, 16), (0, 17), (0, 18), (0, 19), (0, 20), (0, 21), (0, 22)] (.seq (.reg (.p 0 0 (.done 0))) (.seq (.cond false (.nil 0) (.nil 0)) (.seq (.block (.seq (.reg (.p 0 1 (.o 1 0 (.p 2 0 (.done 0))))) (.seq (.reg (.p 0 0 (.p 1 0 (.p 2 0 (.p 3 0 (.p 4 0 (.done 0))))))) (.seq (.reg (.p 0 0 (.p 1 0 (.done 0)))) (.cond false (.reg (.o 0 9 (.o 1 0 (.done 0)))) (.nil 0)))))) (.reg (.p 0 0 (.p 1 0 (.done 0)))))))))) (.seq (.reg (.p 0 0 (.o 1 0 (.p 2 0 (.done 0))))) (.seq (.seq (.reg (.p 0 0 (.p 1 0 (.p 2 0 (.done 0))))) (.block (.loop [((0, 6), .slice), ((0, 27), .int .i64)] [(0, 28), (0, 29), (0, 30), (0, 8), (0, 31), (0, 32), (0, 33), (0, 34)] (.seq (.reg (.p 0 0 (.done 0))) (.seq (.cond false (.nil 0) (.nil 0)) (.seq (.block (.seq (.reg (.p 0 1 (.o 1 0 (.p 2 0 (.done 0))))) (.reg (.p 0 0 (.p 1 0 (.o 2 9 (.p 3 0 (.done 0)))))))) (.reg (.p 0 0 (.p 1 0 (.done 0)))))))))) (.seq (.reg (.p 0 0 (.p 1 0 (.done 0)))) (.nil 0)))))))
theorem Sh.slices_Concat_api_Node_api_Node_eq (slices : Option Addr) (slices_len slices_cap : Nat) (w : World) (R : Value → World → Prop) : Sh.slices_Concat_api_Node_api_Node slices slices_len slices_cap w R = Vc.vcFn Try.prog tab okF Try.f19 Sh.slices_Concat_api_Node_api_Node_h [.slice slices slices_len slices_cap] w R := by kernel_rfl
theorem Sh.slices_Concat_api_Node_api_Node_calls (slices : Option Addr) (slices_len slices_cap : Nat) {w : World} {R : Value → World → Prop} (h : Sh.slices_Concat_api_Node_api_Node slices slices_len slices_cap w R) : Calls Try.prog 19 #[.slice slices slices_len slices_cap] w fun e w' => ∃ v, e = .returned v ∧ R v w' :=
  Vc.fn_calls mixed tabOk okF_ok Try.func19 (by kernel_rfl) (by kernel_rfl) (by rw [← Sh.slices_Concat_api_Node_api_Node_eq slices slices_len slices_cap]; exact h)

def Sh.eval_alone (n_Kind : Int) (n_Op : Int) (n_S : ByteArray) (n_T : ByteArray) (n_N : Int) (n_L : Option Addr) (n_L_len n_L_cap : Nat) (w : World) (R : Value → World → Prop) : Prop :=
  -- eval.go:272
  ∀ b_n : Nat,
  w.heap.size ≤ b_n → (
  -- eval.go:273
  -- eval.go:274
  (
   (n_Kind == (14 : Int)) = true → (
   -- eval.go:275
   ∀ w_1 : World,
   Vc.Fr (fun k => k = b_n) w w_1 → (
   b_n < w_1.heap.size → (
   R (.bool false) w_1))))
  ∧ (
   (n_Kind == (14 : Int)) = false → (
   -- eval.go:276
   (
    (n_Kind == (5 : Int)) = true → (
    -- eval.go:277
    ∀ w_2 : World,
    Vc.Fr (fun k => k = b_n) w w_2 → (
    b_n < w_2.heap.size → (
    R (.bool (n_Op == (21 : Int))) w_2))))
   ∧ (
    (n_Kind == (5 : Int)) = false → (
    -- eval.go:278
    (
     (n_Kind == (6 : Int)) = true → (
     -- eval.go:279
     ((!(decide (n_Op < (7 : Int)))) = true → (!(decide (n_Op < (7 : Int)))) = true) ∧ (
     ((!(decide (n_Op < (7 : Int)))) = true → (!(decide (n_Op < (7 : Int)))) = true) ∧ (
     ((decide (n_Op < (7 : Int))) = false → (!(decide (n_Op < (7 : Int)))) = true) ∧ (
     (((decide (n_Op < (7 : Int))) || (decide (n_Op > (13 : Int)))) = true → ((decide (n_Op < (7 : Int))) || (decide (n_Op > (13 : Int)))) = true) ∧ (
     (((decide (n_Op < (7 : Int))) || (decide (n_Op > (13 : Int)))) = true → ((decide (n_Op < (7 : Int))) || (decide (n_Op > (13 : Int)))) = true) ∧ (
     (((decide (n_Op < (7 : Int))) || (decide (n_Op > (13 : Int)))) = true → ((decide (n_Op < (7 : Int))) || (decide (n_Op > (13 : Int)))) = true) ∧ (
     ∀ w_3 : World,
     Vc.Fr (fun k => k = b_n) w w_3 → (
     b_n < w_3.heap.size → (
     R (.bool (((decide (n_Op < (7 : Int))) || (decide (n_Op > (13 : Int)))) && (n_Op != (17 : Int)))) w_3))))))))))
    ∧ (
     (n_Kind == (6 : Int)) = false → (
     -- eval.go:280
     (
      (n_Kind == (8 : Int)) = true → (
      -- eval.go:281
      ((decide (((n_L_len : Nat) : Int) > (1 : Int))) = true → (decide (((n_L_len : Nat) : Int) > (1 : Int))) = true) ∧ (
      ((decide (((n_L_len : Nat) : Int) > (1 : Int))) = true → (decide (((n_L_len : Nat) : Int) > (1 : Int))) = true) ∧ (
      ∃ p : Addr,
      ((decide (((n_L_len : Nat) : Int) > (1 : Int))) = true → n_L = some p ∧ (0 ≤ (1 : Int) ∧ (1 : Int) < ((n_L_len : Nat) : Int))) ∧ (
      ((decide (((n_L_len : Nat) : Int) > (1 : Int))) = true → (decide (((n_L_len : Nat) : Int) > (1 : Int))) = true) ∧ (
      (
       (decide (((n_L_len : Nat) : Int) > (1 : Int))) = true → (
       (decide (((n_L_len : Nat) : Int) > (1 : Int))) = true ∧ (
       ∀ w_4 : World,
       Vc.Fr (fun k => k = b_n) w w_4 → (
       b_n < w_4.heap.size → (
       ∃ t39 : Int,
       w_4.cell? (p.add ((1 : Int).toNat * 6)) = some (.int .i64 t39) ∧ (
       R (.bool (t39 == (3 : Int))) w_4))))))
      ∧ (
       (decide (((n_L_len : Nat) : Int) > (1 : Int))) = false → (
       ∀ w_5 : World,
       Vc.Fr (fun k => k = b_n) w w_5 → (
       b_n < w_5.heap.size → (
       R (.bool false) w_5))))))))))
     ∧ (
      (n_Kind == (8 : Int)) = false → (
      -- eval.go:282
      (
       (n_Kind == (13 : Int)) = true → (
       -- eval.go:283
       ((!(n_S.toList == (⟨#[102, 111, 108, 100]⟩ : ByteArray).toList)) = true → (!(n_S.toList == (⟨#[102, 111, 108, 100]⟩ : ByteArray).toList)) = true) ∧ (
       ((!(n_S.toList == (⟨#[102, 111, 108, 100]⟩ : ByteArray).toList)) = true → (!(n_S.toList == (⟨#[102, 111, 108, 100]⟩ : ByteArray).toList)) = true) ∧ (
       ((!(n_S.toList == (⟨#[102, 111, 108, 100]⟩ : ByteArray).toList)) = true → (!(n_S.toList == (⟨#[102, 111, 108, 100]⟩ : ByteArray).toList)) = true) ∧ (
       ∀ w_6 : World,
       Vc.Fr (fun k => k = b_n) w w_6 → (
       b_n < w_6.heap.size → (
       R (.bool ((!(n_S.toList == (⟨#[102, 111, 108, 100]⟩ : ByteArray).toList)) && (!(n_S.toList == (⟨#[97, 98, 115]⟩ : ByteArray).toList)))) w_6)))))))
      ∧ (
       (n_Kind == (13 : Int)) = false → (
       -- eval.go:284
       (
        (n_Kind == (12 : Int)) = true → (
        -- eval.go:285
        (
         (((n_L_len : Nat) : Int) != (1 : Int)) = true → (
         -- eval.go:286
         ∀ w_7 : World,
         Vc.Fr (fun k => k = b_n) w w_7 → (
         b_n < w_7.heap.size → (
         R (.bool false) w_7))))
        ∧ (
         (((n_L_len : Nat) : Int) != (1 : Int)) = false → (
         -- eval.go:288
         ∃ p_1 : Addr,
         n_L = some p_1 ∧ (
         (0 ≤ (0 : Int) ∧ (0 : Int) < ((n_L_len : Nat) : Int)) ∧ (
         ∀ w_8 : World,
         Vc.Fr (fun k => k = b_n) w w_8 → (
         b_n < w_8.heap.size → (
         ∃ t62 : Int,
         w_8.cell? (p_1.add ((0 : Int).toNat * 6)) = some (.int .i64 t62) ∧ (
         -- eval.go:289
         ((decide (t62 ≤ (3 : Int))) = true → (decide (t62 ≤ (3 : Int))) = true) ∧ (
         (
          (decide (t62 ≤ (3 : Int))) = true → (
          (decide (t62 ≤ (3 : Int))) = true ∧ (
          (decide (t62 ≤ (3 : Int))) = true ∧ (
          Calls Try.prog 33 #[.int .i64 t62, .int .i64 n_N] w_8 fun (e : Ending) (w_9 : World) => (
          ∃ r_May : Bool,
          e = .returned (.bool r_May) ∧ (
          (b_n < w_8.heap.size → w_9.heap[b_n]? = w_8.heap[b_n]?) ∧ (
          R (.bool r_May) w_9)))))))
         ∧ (
          (decide (t62 ≤ (3 : Int))) = false → (
          R (.bool false) w_8))))))))))))
       ∧ (
        (n_Kind == (12 : Int)) = false → (
        -- eval.go:291
        ∀ w_10 : World,
        Vc.Fr (fun k => k = b_n) w w_10 → (
        b_n < w_10.heap.size → (
        R (.bool true) w_10)))))))))))))))
def Sh.eval_alone_h : Vc.H := (.seq (.reg (.o 0 1 (.p 1 0 (.done 0)))) (.seq (.seq (.reg (.p 0 0 (.p 1 0 (.done 0)))) (.block (.seq (.reg (.p 0 0 (.p 1 0 (.done 0)))) (.cond false (.seq (.reg (.p 0 0 (.done 0))) (.nil 0)) (.seq (.reg (.p 0 0 (.p 1 0 (.done 0)))) (.cond false (.seq (.reg (.p 0 0 (.p 1 0 (.p 2 0 (.p 3 0 (.done 0)))))) (.nil 0)) (.seq (.reg (.p 0 0 (.p 1 0 (.done 0)))) (.cond false (.seq (.reg (.p 0 0 (.p 1 0 (.p 2 0 (.p 3 0 (.p 4 0 (.p 5 0 (.p 6 0 (.p 7 0 (.p 8 0 (.p 9 0 (.p 10 0 (.p 11 0 (.p 12 0 (.p 13 0 (.done 0)))))))))))))))) (.nil 0)) (.seq (.reg (.p 0 0 (.p 1 0 (.done 0)))) (.cond false (.seq (.reg (.p 0 0 (.p 1 0 (.p 2 0 (.p 3 0 (.p 4 0 (.p 5 0 (.p 6 0 (.p 7 1 (.p 8 0 (.s 34 (.o 9 0 (.p 10 8 (.p 11 1 (.p 12 0 (.done 0))))) (.sk 9 (.sk 10 (.p 11 1 (.p 12 0 (.done 0)))))))))))))))) (.nil 0)) (.seq (.reg (.p 0 0 (.p 1 0 (.done 0)))) (.cond false (.seq (.reg (.p 0 0 (.p 1 0 (.p 2 0 (.p 3 0 (.p 4 0 (.p 5 0 (.p 6 0 (.p 7 0 (.p 8 0 (.done 0))))))))))) (.nil 0)) (.seq (.reg (.p 0 0 (.p 1 0 (.done 0)))) (.cond false (.seq (.seq (.reg (.p 0 0 (.p 1 0 (.p 2 0 (.p 3 0 (.done 0)))))) (.cond false (.seq (.reg (.p 0 0 (.done 0))) (.nil 0)) (.nil 0))) (.seq (.reg (.p 0 0 (.p 1 0 (.p 2 1 (.p 3 0 (.o 4 0 (.p 5 0 (.done 0)))))))) (.seq (.reg (.p 0 0 (.p 1 0 (.p 2 0 (.p 3 0 (.p 4 0 (.p 5 0 (.s 65 (.o 6 0 (.p 7 1 (.p 8 0 (.done 0)))) (.sk 6 (.p 7 1 (.p 8 0 (.done 0)))))))))))) (.nil 0)))) (.nil 0))))))))))))))) (.seq (.reg (.p 0 0 (.done 0))) (.nil 0))))
theorem Sh.eval_alone_eq (n_Kind : Int) (n_Op : Int) (n_S : ByteArray) (n_T : ByteArray) (n_N : Int) (n_L : Option Addr) (n_L_len n_L_cap : Nat) (w : World) (R : Value → World → Prop) : Sh.eval_alone n_Kind n_Op n_S n_T n_N n_L n_L_len n_L_cap w R = Vc.vcFn Try.prog tab okF Try.f20 Sh.eval_alone_h [.agg #[.int .i64 n_Kind, .int .i64 n_Op, .string n_S, .string n_T, .int .i64 n_N, .slice n_L n_L_len n_L_cap]] w R := by kernel_rfl
theorem Sh.eval_alone_calls (n_Kind : Int) (n_Op : Int) (n_S : ByteArray) (n_T : ByteArray) (n_N : Int) (n_L : Option Addr) (n_L_len n_L_cap : Nat) {w : World} {R : Value → World → Prop} (h : Sh.eval_alone n_Kind n_Op n_S n_T n_N n_L n_L_len n_L_cap w R) : Calls Try.prog 20 #[.agg #[.int .i64 n_Kind, .int .i64 n_Op, .string n_S, .string n_T, .int .i64 n_N, .slice n_L n_L_len n_L_cap]] w fun e w' => ∃ v, e = .returned v ∧ R v w' :=
  Vc.fn_calls mixed tabOk okF_ok Try.func20 (by kernel_rfl) (by kernel_rfl) (by rw [← Sh.eval_alone_eq n_Kind n_Op n_S n_T n_N n_L n_L_len n_L_cap]; exact h)

def Sh.slices_Grow_api_Node_api_Node (s : Option Addr) (s_len s_cap : Nat) (n : Int) (w : World) (R : Value → World → Prop) : Prop :=
  -- slices.go:422
  -- slices.go:423
  (
   (decide (n < (0 : Int))) = true → (
   -- slices.go:424
   ∃ t7 : Value,
   ∃ w_1 : World,
   (Instr.makeInterface 9 (.string (⟨#[99, 97, 110, 110, 111, 116, 32, 98, 101, 32, 110, 101, 103, 97, 116, 105, 118, 101]⟩ : ByteArray))).run Try.prog w = .ok (t7) w_1 ∧ (
   False)))
  ∧ (
   (decide (n < (0 : Int))) = false → (
   -- slices.go:426
   ∃ t10 : Int,
   ∃ w_2 : World,
   (Builtin.cap_ #[22] 3 #[.slice s s_len s_cap]).run Try.prog w = .ok (.int .i64 t10) w_2 ∧ (
   -- slices.go:426
   (
    (decide ((IntKind.i64.wrap (n - (IntKind.i64.wrap (t10 - ((s_len : Nat) : Int))))) > (0 : Int))) = true → (
    -- slices.go:428
    ∃ t19 : Int,
    ∃ w_3 : World,
    (Builtin.cap_ #[22] 3 #[.slice s s_len s_cap]).run Try.prog w_2 = .ok (.int .i64 t19) w_3 ∧ (
    (0 ≤ t19 ∧ t19 ≤ ((s_cap : Nat) : Int)) ∧ (
    ∃ (t22 : Option Addr) (t22_len t22_cap : Nat),
    ∃ w_4 : World,
    (Builtin.append_ #[22, 3] 22 #[.slice (if s_cap = 0 then s else s.map (·.add (0 * 6))) (t19.toNat - 0) (s_cap - 0), .int .i64 (IntKind.i64.wrap (n - (IntKind.i64.wrap (t10 - ((s_len : Nat) : Int)))))]).run Try.prog w_3 = .ok (.slice t22 t22_len t22_cap) w_4 ∧ (
    (0 ≤ ((s_len : Nat) : Int) ∧ ((s_len : Nat) : Int) ≤ ((t22_cap : Nat) : Int)) ∧ (
    -- slices.go:430
    R (.slice (if t22_cap = 0 then t22 else t22.map (·.add (0 * 6))) (((s_len : Nat) : Int).toNat - 0) (t22_cap - 0)) w_4))))))
   ∧ (
    (decide ((IntKind.i64.wrap (n - (IntKind.i64.wrap (t10 - ((s_len : Nat) : Int))))) > (0 : Int))) = false → (
    -- slices.go:430
    R (.slice s s_len s_cap) w_2)))))
def Sh.slices_Grow_api_Node_api_Node_h : Vc.H := (.seq (.reg (.p 0 0 (.done 0))) (.seq (.seq (.reg (.p 0 0 (.p 1 0 (.done 0)))) (.cond false (.reg (.o 0 9 (.o 1 0 (.done 0)))) (.nil 0))) (.seq (.seq (.reg (.p 0 0 (.p 1 0 (.o 2 9 (.p 3 0 (.p 4 0 (.p 5 0 (.p 6 0 (.p 7 0 (.done 0)))))))))) (.seq (.reg (.p 0 0 (.p 1 0 (.done 0)))) (.cond false (.reg (.p 0 0 (.p 1 0 (.o 2 9 (.p 3 0 (.p 4 0 (.o 5 9 (.p 6 0 (.p 7 0 (.p 8 0 (.p 9 0 (.done 0)))))))))))) (.nil 0)))) (.seq (.reg (.p 0 0 (.p 1 0 (.done 0)))) (.nil 0)))))
theorem Sh.slices_Grow_api_Node_api_Node_eq (s : Option Addr) (s_len s_cap : Nat) (n : Int) (w : World) (R : Value → World → Prop) : Sh.slices_Grow_api_Node_api_Node s s_len s_cap n w R = Vc.vcFn Try.prog tab okF Try.f32 Sh.slices_Grow_api_Node_api_Node_h [.slice s s_len s_cap, .int .i64 n] w R := by kernel_rfl
theorem Sh.slices_Grow_api_Node_api_Node_calls (s : Option Addr) (s_len s_cap : Nat) (n : Int) {w : World} {R : Value → World → Prop} (h : Sh.slices_Grow_api_Node_api_Node s s_len s_cap n w R) : Calls Try.prog 32 #[.slice s s_len s_cap, .int .i64 n] w fun e w' => ∃ v, e = .returned v ∧ R v w' :=
  Vc.fn_calls mixed tabOk okF_ok Try.func32 (by kernel_rfl) (by kernel_rfl) (by rw [← Sh.slices_Grow_api_Node_api_Node_eq s s_len s_cap n]; exact h)

def Sh.cast_May (from_1 : Int) (kind : Int) (w : World) (R : Value → World → Prop) : Prop :=
  -- cast.go:55
  -- cast.go:57
  ((!(decide (from_1 < (1 : Int)))) = true → (!(decide (from_1 < (1 : Int)))) = true) ∧ (
  ((decide (from_1 < (1 : Int))) = false → (!(decide (from_1 < (1 : Int)))) = true) ∧ (
  (
   ((decide (from_1 < (1 : Int))) || (decide (from_1 > (3 : Int)))) = true → (
   -- cast.go:58
   R (.bool true) w))
  ∧ (
   ((decide (from_1 < (1 : Int))) || (decide (from_1 > (3 : Int)))) = false → (
   -- cast.go:59
   ((!(decide (kind < (1 : Int)))) = true → (!(decide (kind < (1 : Int)))) = true) ∧ (
   ((decide (kind < (1 : Int))) = false → (!(decide (kind < (1 : Int)))) = true) ∧ (
   (
    ((decide (kind < (1 : Int))) || (decide (kind > (3 : Int)))) = true → (
    -- cast.go:60
    R (.bool false) w))
   ∧ (
    ((decide (kind < (1 : Int))) || (decide (kind > (3 : Int)))) = false → (
    -- cast.go:62
    ((!(from_1 != (3 : Int))) = true → (!(from_1 != (3 : Int))) = true) ∧ (
    ((from_1 != (3 : Int)) = false → (!(from_1 != (3 : Int))) = true) ∧ (
    R (.bool ((from_1 != (3 : Int)) || (kind == (3 : Int)))) w))))))))))
def Sh.cast_May_h : Vc.H := (.seq (.reg (.p 0 0 (.done 0))) (.seq (.block (.seq (.reg (.p 0 0 (.p 1 0 (.p 2 0 (.p 3 0 (.p 4 0 (.p 5 0 (.p 6 0 (.done 0))))))))) (.cond false (.seq (.reg (.p 0 0 (.done 0))) (.nil 0)) (.seq (.reg (.p 0 0 (.p 1 0 (.p 2 0 (.p 3 0 (.p 4 0 (.p 5 0 (.p 6 0 (.done 0))))))))) (.cond false (.seq (.reg (.p 0 0 (.done 0))) (.nil 0)) (.nil 0)))))) (.seq (.reg (.p 0 0 (.p 1 0 (.p 2 0 (.p 3 0 (.p 4 0 (.p 5 0 (.p 6 0 (.done 0))))))))) (.nil 0))))
theorem Sh.cast_May_eq (from_1 : Int) (kind : Int) (w : World) (R : Value → World → Prop) : Sh.cast_May from_1 kind w R = Vc.vcFn Try.prog tab okF Try.f33 Sh.cast_May_h [.int .i64 from_1, .int .i64 kind] w R := by kernel_rfl
theorem Sh.cast_May_calls (from_1 : Int) (kind : Int) {w : World} {R : Value → World → Prop} (h : Sh.cast_May from_1 kind w R) : Calls Try.prog 33 #[.int .i64 from_1, .int .i64 kind] w fun e w' => ∃ v, e = .returned v ∧ R v w' :=
  Vc.fn_calls mixed tabOk okF_ok Try.func33 (by kernel_rfl) (by kernel_rfl) (by rw [← Sh.cast_May_eq from_1 kind]; exact h)

def Sh.ref17_SameNodes (a : Option Addr) (a_len a_cap : Nat) (b : Option Addr) (b_len b_cap : Nat) (w : World) (R : Value → World → Prop) : Prop :=
  -- umlautref17.go:758
  -- umlautref17.go:759
  (
   (((a_len : Nat) : Int) != ((b_len : Nat) : Int)) = true → (
   -- umlautref17.go:760
   R (.bool false) w))
  ∧ (
   (((a_len : Nat) : Int) != ((b_len : Nat) : Int)) = false → (
   -- umlautref17.go:762
   -- LOOP 15: i
   ∃ (I : Int → World → Prop) (μ : Int → World → Nat),
   (
    I (0 : Int) w)
   ∧ (
    ∀ (i : Int),
    ∀ w_1 : World,
    I i w_1 → (
    -- umlautref17.go:762
    (
     (decide (i < ((a_len : Nat) : Int))) = true → (
     -- umlautref17.go:763 (draws)
     ∀ w_2 : World,
     Vc.Fr (fun k => False) w_1 w_2 → (
     ∃ p : Addr,
     a = some p ∧ (
     (0 ≤ i ∧ i < ((a_len : Nat) : Int)) ∧ (
     ∃ t20_Kind : Int,
     w_2.cell? (p.add (i.toNat * 6)) = some (.int .i64 t20_Kind) ∧ (
     ∃ t20_Op : Int,
     w_2.cell? ((p.add (i.toNat * 6)).add 1) = some (.int .i64 t20_Op) ∧ (
     ∃ t20_S : ByteArray,
     w_2.cell? ((p.add (i.toNat * 6)).add 2) = some (.string t20_S) ∧ (
     ∃ t20_T : ByteArray,
     w_2.cell? ((p.add (i.toNat * 6)).add 3) = some (.string t20_T) ∧ (
     ∃ t20_N : Int,
     w_2.cell? ((p.add (i.toNat * 6)).add 4) = some (.int .i64 t20_N) ∧ (
     ∃ (t20_L : Option Addr) (t20_L_len t20_L_cap : Nat),
     w_2.cell? ((p.add (i.toNat * 6)).add 5) = some (.slice t20_L t20_L_len t20_L_cap) ∧ (
     ∃ p_1 : Addr,
     b = some p_1 ∧ (
     (0 ≤ i ∧ i < ((b_len : Nat) : Int)) ∧ (
     ∃ t24_Kind : Int,
     w_2.cell? (p_1.add (i.toNat * 6)) = some (.int .i64 t24_Kind) ∧ (
     ∃ t24_Op : Int,
     w_2.cell? ((p_1.add (i.toNat * 6)).add 1) = some (.int .i64 t24_Op) ∧ (
     ∃ t24_S : ByteArray,
     w_2.cell? ((p_1.add (i.toNat * 6)).add 2) = some (.string t24_S) ∧ (
     ∃ t24_T : ByteArray,
     w_2.cell? ((p_1.add (i.toNat * 6)).add 3) = some (.string t24_T) ∧ (
     ∃ t24_N : Int,
     w_2.cell? ((p_1.add (i.toNat * 6)).add 4) = some (.int .i64 t24_N) ∧ (
     ∃ (t24_L : Option Addr) (t24_L_len t24_L_cap : Nat),
     w_2.cell? ((p_1.add (i.toNat * 6)).add 5) = some (.slice t24_L t24_L_len t24_L_cap) ∧ (
     Calls Try.prog 13 #[.agg #[.int .i64 t20_Kind, .int .i64 t20_Op, .string t20_S, .string t20_T, .int .i64 t20_N, .slice t20_L t20_L_len t20_L_cap], .agg #[.int .i64 t24_Kind, .int .i64 t24_Op, .string t24_S, .string t24_T, .int .i64 t24_N, .slice t24_L t24_L_len t24_L_cap]] w_2 fun (e : Ending) (w_3 : World) => (
     ∃ r_SameNode : Bool,
     e = .returned (.bool r_SameNode) ∧ (
     Vc.Fr (fun k => False) w_2 w_3 ∧ (
     (
      (!r_SameNode) = true → (
      -- umlautref17.go:764
      R (.bool false) w_3))
     ∧ (
      (!r_SameNode) = false → (
      -- umlautref17.go:762
      I (IntKind.i64.wrap (i + (1 : Int))) w_3 ∧ μ (IntKind.i64.wrap (i + (1 : Int))) w_3 < μ i w_1))))))))))))))))))))))))
    ∧ (
     (decide (i < ((a_len : Nat) : Int))) = false → (
     -- umlautref17.go:767
     R (.bool true) w_1))))))
def Sh.ref17_SameNodes_h : Vc.H := (.seq (.reg (.p 0 0 (.done 0))) (.seq (.seq (.reg (.p 0 0 (.p 1 0 (.p 2 0 (.p 3 0 (.p 4 0 (.done 0))))))) (.cond false (.seq (.reg (.p 0 0 (.done 0))) (.nil 0)) (.nil 0))) (.seq (.seq (.reg (.p 0 0 (.done 0))) (.block (.loop [((0, 5), .int .i64)] [(0, 11), (0, 12), (0, 13), (0, 14), (0, 17), (0, 18), (0, 19), (0, 20), (0, 21), (0, 22), (0, 23), (0, 24), (0, 25), (0, 26), (0, 4), (0, 15), (0, 16)] (.seq (.seq (.reg (.p 0 0 (.p 1 0 (.p 2 0 (.p 3 0 (.done 0)))))) (.cond false (.nil 0) (.nil 0))) (.seq (.block (.seq (.draw false [] (.p 0 0 (.p 1 0 (.p 2 1 (.l 3 (.p 4 0 (.p 5 0 (.p 6 1 (.l 7 (.o 8 0 (.p 9 0 (.done 0)))))))))))) (.cond false (.seq (.reg (.p 0 0 (.done 0))) (.nil 0)) (.nil 0)))) (.reg (.p 0 0 (.p 1 0 (.p 2 0 (.done 0)))))))))) (.seq (.reg (.p 0 0 (.done 0))) (.nil 0)))))
theorem Sh.ref17_SameNodes_eq (a : Option Addr) (a_len a_cap : Nat) (b : Option Addr) (b_len b_cap : Nat) (w : World) (R : Value → World → Prop) : Sh.ref17_SameNodes a a_len a_cap b b_len b_cap w R = Vc.vcFn Try.prog tab okF Try.f8 Sh.ref17_SameNodes_h [.slice a a_len a_cap, .slice b b_len b_cap] w R := by kernel_rfl
theorem Sh.ref17_SameNodes_calls (a : Option Addr) (a_len a_cap : Nat) (b : Option Addr) (b_len b_cap : Nat) {w : World} {R : Value → World → Prop} (h : Sh.ref17_SameNodes a a_len a_cap b b_len b_cap w R) : Calls Try.prog 8 #[.slice a a_len a_cap, .slice b b_len b_cap] w fun e w' => ∃ v, e = .returned v ∧ R v w' :=
  Vc.fn_calls mixed tabOk okF_ok Try.func8 (by kernel_rfl) (by kernel_rfl) (by rw [← Sh.ref17_SameNodes_eq a a_len a_cap b b_len b_cap]; exact h)

def Sh.ref17_SameNode (a_Kind : Int) (a_Op : Int) (a_S : ByteArray) (a_T : ByteArray) (a_N : Int) (a_L : Option Addr) (a_L_len a_L_cap : Nat) (b_Kind : Int) (b_Op : Int) (b_S : ByteArray) (b_T : ByteArray) (b_N : Int) (b_L : Option Addr) (b_L_len b_L_cap : Nat) (w : World) (R : Value → World → Prop) : Prop :=
  -- umlautref17.go:753
  ∀ b_a : Nat,
  w.heap.size ≤ b_a → (
  ∀ b_b : Nat,
  w.heap.size ≤ b_b → (
  b_b ≠ b_a → (
  -- umlautref17.go:754
  ((a_Kind == b_Kind) = true → (a_Kind == b_Kind) = true) ∧ (
  ((a_Kind == b_Kind) = true → (a_Kind == b_Kind) = true) ∧ (
  ((a_Kind == b_Kind) = true → (a_Kind == b_Kind) = true) ∧ (
  ((a_Kind == b_Kind) = true → (a_Kind == b_Kind) = true) ∧ (
  ((a_Kind == b_Kind) = true → (a_Kind == b_Kind) = true) ∧ (
  (((a_Kind == b_Kind) && (a_Op == b_Op)) = true → ((a_Kind == b_Kind) && (a_Op == b_Op)) = true) ∧ (
  (((a_Kind == b_Kind) && (a_Op == b_Op)) = true → ((a_Kind == b_Kind) && (a_Op == b_Op)) = true) ∧ (
  (((a_Kind == b_Kind) && (a_Op == b_Op)) = true → ((a_Kind == b_Kind) && (a_Op == b_Op)) = true) ∧ (
  (((a_Kind == b_Kind) && (a_Op == b_Op)) = true → ((a_Kind == b_Kind) && (a_Op == b_Op)) = true) ∧ (
  (((a_Kind == b_Kind) && (a_Op == b_Op)) = true → ((a_Kind == b_Kind) && (a_Op == b_Op)) = true) ∧ (
  ((((a_Kind == b_Kind) && (a_Op == b_Op)) && (a_S.toList == b_S.toList)) = true → (((a_Kind == b_Kind) && (a_Op == b_Op)) && (a_S.toList == b_S.toList)) = true) ∧ (
  ((((a_Kind == b_Kind) && (a_Op == b_Op)) && (a_S.toList == b_S.toList)) = true → (((a_Kind == b_Kind) && (a_Op == b_Op)) && (a_S.toList == b_S.toList)) = true) ∧ (
  ((((a_Kind == b_Kind) && (a_Op == b_Op)) && (a_S.toList == b_S.toList)) = true → (((a_Kind == b_Kind) && (a_Op == b_Op)) && (a_S.toList == b_S.toList)) = true) ∧ (
  ((((a_Kind == b_Kind) && (a_Op == b_Op)) && (a_S.toList == b_S.toList)) = true → (((a_Kind == b_Kind) && (a_Op == b_Op)) && (a_S.toList == b_S.toList)) = true) ∧ (
  ((((a_Kind == b_Kind) && (a_Op == b_Op)) && (a_S.toList == b_S.toList)) = true → (((a_Kind == b_Kind) && (a_Op == b_Op)) && (a_S.toList == b_S.toList)) = true) ∧ (
  (((((a_Kind == b_Kind) && (a_Op == b_Op)) && (a_S.toList == b_S.toList)) && (a_T.toList == b_T.toList)) = true → ((((a_Kind == b_Kind) && (a_Op == b_Op)) && (a_S.toList == b_S.toList)) && (a_T.toList == b_T.toList)) = true) ∧ (
  (((((a_Kind == b_Kind) && (a_Op == b_Op)) && (a_S.toList == b_S.toList)) && (a_T.toList == b_T.toList)) = true → ((((a_Kind == b_Kind) && (a_Op == b_Op)) && (a_S.toList == b_S.toList)) && (a_T.toList == b_T.toList)) = true) ∧ (
  (((((a_Kind == b_Kind) && (a_Op == b_Op)) && (a_S.toList == b_S.toList)) && (a_T.toList == b_T.toList)) = true → ((((a_Kind == b_Kind) && (a_Op == b_Op)) && (a_S.toList == b_S.toList)) && (a_T.toList == b_T.toList)) = true) ∧ (
  (((((a_Kind == b_Kind) && (a_Op == b_Op)) && (a_S.toList == b_S.toList)) && (a_T.toList == b_T.toList)) = true → ((((a_Kind == b_Kind) && (a_Op == b_Op)) && (a_S.toList == b_S.toList)) && (a_T.toList == b_T.toList)) = true) ∧ (
  (((((a_Kind == b_Kind) && (a_Op == b_Op)) && (a_S.toList == b_S.toList)) && (a_T.toList == b_T.toList)) = true → ((((a_Kind == b_Kind) && (a_Op == b_Op)) && (a_S.toList == b_S.toList)) && (a_T.toList == b_T.toList)) = true) ∧ (
  ((((((a_Kind == b_Kind) && (a_Op == b_Op)) && (a_S.toList == b_S.toList)) && (a_T.toList == b_T.toList)) && (a_N == b_N)) = true → (((((a_Kind == b_Kind) && (a_Op == b_Op)) && (a_S.toList == b_S.toList)) && (a_T.toList == b_T.toList)) && (a_N == b_N)) = true) ∧ (
  ((((((a_Kind == b_Kind) && (a_Op == b_Op)) && (a_S.toList == b_S.toList)) && (a_T.toList == b_T.toList)) && (a_N == b_N)) = true → (((((a_Kind == b_Kind) && (a_Op == b_Op)) && (a_S.toList == b_S.toList)) && (a_T.toList == b_T.toList)) && (a_N == b_N)) = true) ∧ (
  (
   (((((a_Kind == b_Kind) && (a_Op == b_Op)) && (a_S.toList == b_S.toList)) && (a_T.toList == b_T.toList)) && (a_N == b_N)) = true → (
   (((((a_Kind == b_Kind) && (a_Op == b_Op)) && (a_S.toList == b_S.toList)) && (a_T.toList == b_T.toList)) && (a_N == b_N)) = true ∧ (
   (((((a_Kind == b_Kind) && (a_Op == b_Op)) && (a_S.toList == b_S.toList)) && (a_T.toList == b_T.toList)) && (a_N == b_N)) = true ∧ (
   ∀ w_1 : World,
   Vc.Fr (fun k => k = b_b ∨ k = b_a) w w_1 → (
   b_b < w_1.heap.size → (
   b_a < w_1.heap.size → (
   Calls Try.prog 8 #[.slice a_L a_L_len a_L_cap, .slice b_L b_L_len b_L_cap] w_1 fun (e : Ending) (w_2 : World) => (
   ∃ r_SameNodes : Bool,
   e = .returned (.bool r_SameNodes) ∧ (
   (b_b < w_1.heap.size → w_2.heap[b_b]? = w_1.heap[b_b]?) ∧ (
   (b_a < w_1.heap.size → w_2.heap[b_a]? = w_1.heap[b_a]?) ∧ (
   R (.bool r_SameNodes) w_2)))))))))))
  ∧ (
   (((((a_Kind == b_Kind) && (a_Op == b_Op)) && (a_S.toList == b_S.toList)) && (a_T.toList == b_T.toList)) && (a_N == b_N)) = false → (
   ∀ w_3 : World,
   Vc.Fr (fun k => k = b_b ∨ k = b_a) w w_3 → (
   b_b < w_3.heap.size → (
   b_a < w_3.heap.size → (
   R (.bool false) w_3))))))))))))))))))))))))))))))
def Sh.ref17_SameNode_h : Vc.H := (.seq (.reg (.o 0 1 (.o 1 1 (.p 2 0 (.done 0))))) (.seq (.reg (.p 0 0 (.p 1 0 (.p 2 0 (.p 3 0 (.p 4 0 (.p 5 0 (.p 6 0 (.p 7 0 (.p 8 0 (.p 9 0 (.p 10 0 (.p 11 0 (.p 12 0 (.p 13 0 (.p 14 0 (.p 15 0 (.p 16 0 (.p 17 0 (.p 18 0 (.p 19 0 (.p 20 0 (.p 21 0 (.p 22 0 (.p 23 0 (.p 24 0 (.p 25 0 (.p 26 0 (.p 27 0 (.p 28 0 (.p 29 0 (.p 30 0 (.p 31 0 (.p 32 0 (.p 33 0 (.p 34 0 (.p 35 0 (.p 36 0 (.p 37 0 (.s 38 (.o 38 0 (.p 39 1 (.p 40 0 (.done 0)))) (.sk 38 (.p 39 1 (.p 40 0 (.done 0)))))))))))))))))))))))))))))))))))))))))))) (.nil 0)))
theorem Sh.ref17_SameNode_eq (a_Kind : Int) (a_Op : Int) (a_S : ByteArray) (a_T : ByteArray) (a_N : Int) (a_L : Option Addr) (a_L_len a_L_cap : Nat) (b_Kind : Int) (b_Op : Int) (b_S : ByteArray) (b_T : ByteArray) (b_N : Int) (b_L : Option Addr) (b_L_len b_L_cap : Nat) (w : World) (R : Value → World → Prop) : Sh.ref17_SameNode a_Kind a_Op a_S a_T a_N a_L a_L_len a_L_cap b_Kind b_Op b_S b_T b_N b_L b_L_len b_L_cap w R = Vc.vcFn Try.prog tab okF Try.f13 Sh.ref17_SameNode_h [.agg #[.int .i64 a_Kind, .int .i64 a_Op, .string a_S, .string a_T, .int .i64 a_N, .slice a_L a_L_len a_L_cap], .agg #[.int .i64 b_Kind, .int .i64 b_Op, .string b_S, .string b_T, .int .i64 b_N, .slice b_L b_L_len b_L_cap]] w R := by kernel_rfl
theorem Sh.ref17_SameNode_calls (a_Kind : Int) (a_Op : Int) (a_S : ByteArray) (a_T : ByteArray) (a_N : Int) (a_L : Option Addr) (a_L_len a_L_cap : Nat) (b_Kind : Int) (b_Op : Int) (b_S : ByteArray) (b_T : ByteArray) (b_N : Int) (b_L : Option Addr) (b_L_len b_L_cap : Nat) {w : World} {R : Value → World → Prop} (h : Sh.ref17_SameNode a_Kind a_Op a_S a_T a_N a_L a_L_len a_L_cap b_Kind b_Op b_S b_T b_N b_L b_L_len b_L_cap w R) : Calls Try.prog 13 #[.agg #[.int .i64 a_Kind, .int .i64 a_Op, .string a_S, .string a_T, .int .i64 a_N, .slice a_L a_L_len a_L_cap], .agg #[.int .i64 b_Kind, .int .i64 b_Op, .string b_S, .string b_T, .int .i64 b_N, .slice b_L b_L_len b_L_cap]] w fun e w' => ∃ v, e = .returned v ∧ R v w' :=
  Vc.fn_calls mixed tabOk okF_ok Try.func13 (by kernel_rfl) (by kernel_rfl) (by rw [← Sh.ref17_SameNode_eq a_Kind a_Op a_S a_T a_N a_L a_L_len a_L_cap b_Kind b_Op b_S b_T b_N b_L b_L_len b_L_cap]; exact h)

end Go.Proofs.Ytjlkgedcpmoehaa
