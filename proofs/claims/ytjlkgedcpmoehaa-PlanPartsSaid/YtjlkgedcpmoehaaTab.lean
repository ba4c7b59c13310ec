/- The table of the types that are met, and the functions that are called: by gen.py. -/
import Derived.Test.YtjlkgedcpmoehaaVcS
import Derived.Test.YtjlkgedcpmoehaaProg
import Derived.KernelRfl
set_option linter.unusedVariables false
namespace Go.Proofs.Ytjlkgedcpmoehaa
open Go
open Go.Proofs
noncomputable def tab : Nat → Option Vc.TI
  | 0 => some { desc := Try.t0.desc, size := Try.t0.size, bytes := Try.t0.bytes, zero := (Try.t0.zero.map fun v => v.cells.toList).getD [], kd := .val, cells := [.val] }
  | 2 => some { desc := Try.t2.desc, size := Try.t2.size, bytes := Try.t2.bytes, zero := (Try.t2.zero.map fun v => v.cells.toList).getD [], kd := .int .i64, cells := [.int .i64] }
  | 3 => some { desc := Try.t3.desc, size := Try.t3.size, bytes := Try.t3.bytes, zero := (Try.t3.zero.map fun v => v.cells.toList).getD [], kd := .int .i64, cells := [.int .i64] }
  | 4 => some { desc := Try.t4.desc, size := Try.t4.size, bytes := Try.t4.bytes, zero := (Try.t4.zero.map fun v => v.cells.toList).getD [], kd := .bool, cells := [.bool] }
  | 5 => some { desc := Try.t5.desc, size := Try.t5.size, bytes := Try.t5.bytes, zero := (Try.t5.zero.map fun v => v.cells.toList).getD [], kd := .int .u8, cells := [.int .u8] }
  | 9 => some { desc := Try.t9.desc, size := Try.t9.size, bytes := Try.t9.bytes, zero := (Try.t9.zero.map fun v => v.cells.toList).getD [], kd := .str, cells := [.str] }
  | 20 => some { desc := Try.t20.desc, size := Try.t20.size, bytes := Try.t20.bytes, zero := (Try.t20.zero.map fun v => v.cells.toList).getD [], kd := .val, cells := [.val] }
  | 22 => some { desc := Try.t22.desc, size := Try.t22.size, bytes := Try.t22.bytes, zero := (Try.t22.zero.map fun v => v.cells.toList).getD [], kd := .slice, cells := [.slice] }
  | 24 => some { desc := Try.t23.desc, size := Try.t24.size, bytes := Try.t24.bytes, zero := (Try.t24.zero.map fun v => v.cells.toList).getD [], kd := .val, cells := [.int .i64, .int .i64, .str, .str, .int .i64, .slice] }
  | 27 => some { desc := Try.t27.desc, size := Try.t27.size, bytes := Try.t27.bytes, zero := (Try.t27.zero.map fun v => v.cells.toList).getD [], kd := .val, cells := [.val] }
  | 30 => some { desc := Try.t30.desc, size := Try.t30.size, bytes := Try.t30.bytes, zero := (Try.t30.zero.map fun v => v.cells.toList).getD [], kd := .ptr, cells := [.ptr] }
  | 38 => some { desc := Try.t38.desc, size := Try.t38.size, bytes := Try.t38.bytes, zero := (Try.t38.zero.map fun v => v.cells.toList).getD [], kd := .ptr, cells := [.ptr] }
  | 41 => some { desc := Try.t40.desc, size := Try.t41.size, bytes := Try.t41.bytes, zero := (Try.t41.zero.map fun v => v.cells.toList).getD [], kd := .val, cells := [.str, .str, .bool] }
  | 43 => some { desc := Try.t43.desc, size := Try.t43.size, bytes := Try.t43.bytes, zero := (Try.t43.zero.map fun v => v.cells.toList).getD [], kd := .slice, cells := [.slice] }
  | 44 => some { desc := Try.t44.desc, size := Try.t44.size, bytes := Try.t44.bytes, zero := (Try.t44.zero.map fun v => v.cells.toList).getD [], kd := .slice, cells := [.slice] }
  | 45 => some { desc := Try.t45.desc, size := Try.t45.size, bytes := Try.t45.bytes, zero := (Try.t45.zero.map fun v => v.cells.toList).getD [], kd := .slice, cells := [.slice] }
  | 46 => some { desc := Try.t46.desc, size := Try.t46.size, bytes := Try.t46.bytes, zero := (Try.t46.zero.map fun v => v.cells.toList).getD [], kd := .slice, cells := [.slice] }
  | 47 => some { desc := Try.t47.desc, size := Try.t47.size, bytes := Try.t47.bytes, zero := (Try.t47.zero.map fun v => v.cells.toList).getD [], kd := .slice, cells := [.slice] }
  | 48 => some { desc := Try.t48.desc, size := Try.t48.size, bytes := Try.t48.bytes, zero := (Try.t48.zero.map fun v => v.cells.toList).getD [], kd := .slice, cells := [.slice] }
  | 50 => some { desc := Try.t49.desc, size := Try.t50.size, bytes := Try.t50.bytes, zero := (Try.t50.zero.map fun v => v.cells.toList).getD [], kd := .val, cells := [.int .i64, .str, .str, .str, .int .i64, .int .i64, .slice, .bool, .bool, .slice, .slice, .slice, .slice, .ptr, .ptr, .slice, .slice, .int .i64, .int .i64] }
  | 52 => some { desc := Try.t51.desc, size := Try.t52.size, bytes := Try.t52.bytes, zero := (Try.t52.zero.map fun v => v.cells.toList).getD [], kd := .val, cells := [.int .i64, .int .i64, .str, .str, .int .i64, .slice, .int .i64, .str, .str, .str, .int .i64, .int .i64, .slice, .bool, .bool, .slice, .slice, .slice, .slice, .ptr, .ptr, .slice, .slice, .int .i64, .int .i64, .int .i64, .int .i64] }
  | 60 => some { desc := Try.t60.desc, size := Try.t60.size, bytes := Try.t60.bytes, zero := (Try.t60.zero.map fun v => v.cells.toList).getD [], kd := .slice, cells := [.slice] }
  | 64 => some { desc := Try.t63.desc, size := Try.t64.size, bytes := Try.t64.bytes, zero := (Try.t64.zero.map fun v => v.cells.toList).getD [], kd := .val, cells := [.int .i64, .int .i64, .str] }
  | 66 => some { desc := Try.t66.desc, size := Try.t66.size, bytes := Try.t66.bytes, zero := (Try.t66.zero.map fun v => v.cells.toList).getD [], kd := .ptr, cells := [.ptr] }
  | 67 => some { desc := Try.t67.desc, size := Try.t67.size, bytes := Try.t67.bytes, zero := (Try.t67.zero.map fun v => v.cells.toList).getD [], kd := .slice, cells := [.slice] }
  | 69 => some { desc := Try.t68.desc, size := Try.t69.size, bytes := Try.t69.bytes, zero := (Try.t69.zero.map fun v => v.cells.toList).getD [], kd := .val, cells := [.slice, .int .i64, .int .i64] }
  | 70 => some { desc := Try.t70.desc, size := Try.t70.size, bytes := Try.t70.bytes, zero := (Try.t70.zero.map fun v => v.cells.toList).getD [], kd := .val, cells := [.val] }
  | 74 => some { desc := Try.t73.desc, size := Try.t74.size, bytes := Try.t74.bytes, zero := (Try.t74.zero.map fun v => v.cells.toList).getD [], kd := .val, cells := [.slice, .int .i64, .int .i64, .int .i64, .int .i64, .int .i64] }
  | 86 => some { desc := Try.t85.desc, size := Try.t86.size, bytes := Try.t86.bytes, zero := (Try.t86.zero.map fun v => v.cells.toList).getD [], kd := .val, cells := [.int .i64, .str, .int .i64, .int .i64] }
  | 89 => some { desc := Try.t89.desc, size := Try.t89.size, bytes := Try.t89.bytes, zero := (Try.t89.zero.map fun v => v.cells.toList).getD [], kd := .val, cells := [.val] }
  | 92 => some { desc := Try.t92.desc, size := Try.t92.size, bytes := Try.t92.bytes, zero := (Try.t92.zero.map fun v => v.cells.toList).getD [], kd := .val, cells := [.val] }
  | 98 => some { desc := Try.t97.desc, size := Try.t98.size, bytes := Try.t98.bytes, zero := (Try.t98.zero.map fun v => v.cells.toList).getD [], kd := .val, cells := [.str, .int .i64] }
  | 99 => some { desc := Try.t99.desc, size := Try.t99.size, bytes := Try.t99.bytes, zero := (Try.t99.zero.map fun v => v.cells.toList).getD [], kd := .slice, cells := [.slice] }
  | 100 => some { desc := Try.t100.desc, size := Try.t100.size, bytes := Try.t100.bytes, zero := (Try.t100.zero.map fun v => v.cells.toList).getD [], kd := .slice, cells := [.slice] }
  | 102 => some { desc := Try.t102.desc, size := Try.t102.size, bytes := Try.t102.bytes, zero := (Try.t102.zero.map fun v => v.cells.toList).getD [], kd := .slice, cells := [.slice] }
  | 120 => some { desc := Try.t119.desc, size := Try.t120.size, bytes := Try.t120.bytes, zero := (Try.t120.zero.map fun v => v.cells.toList).getD [], kd := .val, cells := [.str, .str, .int .i64, .bool, .bool, .bool] }
  | 122 => some { desc := Try.t121.desc, size := Try.t122.size, bytes := Try.t122.bytes, zero := (Try.t122.zero.map fun v => v.cells.toList).getD [], kd := .val, cells := [.str, .int .i64, .int .i64, .str, .str, .int .i64, .slice] }
  | 124 => some { desc := Try.t123.desc, size := Try.t124.size, bytes := Try.t124.bytes, zero := (Try.t124.zero.map fun v => v.cells.toList).getD [], kd := .val, cells := [.bool, .int .i64, .int .i64, .str, .str, .int .i64, .slice, .str] }
  | 126 => some { desc := Try.t125.desc, size := Try.t126.size, bytes := Try.t126.bytes, zero := (Try.t126.zero.map fun v => v.cells.toList).getD [], kd := .val, cells := [.str, .str, .ptr] }
  | 128 => some { desc := Try.t127.desc, size := Try.t128.size, bytes := Try.t128.bytes, zero := (Try.t128.zero.map fun v => v.cells.toList).getD [], kd := .val, cells := [.int .i64, .int .i64, .str, .str, .int .i64, .slice, .bool] }
  | _ => none

set_option maxRecDepth 100000 in
theorem tabOk : Vc.TabOk Try.prog tab := by
  intro t i h
  unfold tab at h
  split at h
  · cases h; exact ⟨by kernel_rfl, Try.t0, by kernel_rfl, by kernel_rfl, ⟨_, rfl, by kernel_rfl⟩, by kernel_rfl⟩
  · cases h; exact ⟨by kernel_rfl, Try.t2, by kernel_rfl, by kernel_rfl, ⟨_, rfl, by kernel_rfl⟩, by kernel_rfl⟩
  · cases h; exact ⟨by kernel_rfl, Try.t3, by kernel_rfl, by kernel_rfl, ⟨_, rfl, by kernel_rfl⟩, by kernel_rfl⟩
  · cases h; exact ⟨by kernel_rfl, Try.t4, by kernel_rfl, by kernel_rfl, ⟨_, rfl, by kernel_rfl⟩, by kernel_rfl⟩
  · cases h; exact ⟨by kernel_rfl, Try.t5, by kernel_rfl, by kernel_rfl, ⟨_, rfl, by kernel_rfl⟩, by kernel_rfl⟩
  · cases h; exact ⟨by kernel_rfl, Try.t9, by kernel_rfl, by kernel_rfl, ⟨_, rfl, by kernel_rfl⟩, by kernel_rfl⟩
  · cases h; exact ⟨by kernel_rfl, Try.t20, by kernel_rfl, by kernel_rfl, ⟨_, rfl, by kernel_rfl⟩, by kernel_rfl⟩
  · cases h; exact ⟨by kernel_rfl, Try.t22, by kernel_rfl, by kernel_rfl, ⟨_, rfl, by kernel_rfl⟩, by kernel_rfl⟩
  · cases h; exact ⟨by kernel_rfl, Try.t24, by kernel_rfl, by kernel_rfl, ⟨_, rfl, by kernel_rfl⟩, by kernel_rfl⟩
  · cases h; exact ⟨by kernel_rfl, Try.t27, by kernel_rfl, by kernel_rfl, ⟨_, rfl, by kernel_rfl⟩, by kernel_rfl⟩
  · cases h; exact ⟨by kernel_rfl, Try.t30, by kernel_rfl, by kernel_rfl, ⟨_, rfl, by kernel_rfl⟩, by kernel_rfl⟩
  · cases h; exact ⟨by kernel_rfl, Try.t38, by kernel_rfl, by kernel_rfl, ⟨_, rfl, by kernel_rfl⟩, by kernel_rfl⟩
  · cases h; exact ⟨by kernel_rfl, Try.t41, by kernel_rfl, by kernel_rfl, ⟨_, rfl, by kernel_rfl⟩, by kernel_rfl⟩
  · cases h; exact ⟨by kernel_rfl, Try.t43, by kernel_rfl, by kernel_rfl, ⟨_, rfl, by kernel_rfl⟩, by kernel_rfl⟩
  · cases h; exact ⟨by kernel_rfl, Try.t44, by kernel_rfl, by kernel_rfl, ⟨_, rfl, by kernel_rfl⟩, by kernel_rfl⟩
  · cases h; exact ⟨by kernel_rfl, Try.t45, by kernel_rfl, by kernel_rfl, ⟨_, rfl, by kernel_rfl⟩, by kernel_rfl⟩
  · cases h; exact ⟨by kernel_rfl, Try.t46, by kernel_rfl, by kernel_rfl, ⟨_, rfl, by kernel_rfl⟩, by kernel_rfl⟩
  · cases h; exact ⟨by kernel_rfl, Try.t47, by kernel_rfl, by kernel_rfl, ⟨_, rfl, by kernel_rfl⟩, by kernel_rfl⟩
  · cases h; exact ⟨by kernel_rfl, Try.t48, by kernel_rfl, by kernel_rfl, ⟨_, rfl, by kernel_rfl⟩, by kernel_rfl⟩
  · cases h; exact ⟨by kernel_rfl, Try.t50, by kernel_rfl, by kernel_rfl, ⟨_, rfl, by kernel_rfl⟩, by kernel_rfl⟩
  · cases h; exact ⟨by kernel_rfl, Try.t52, by kernel_rfl, by kernel_rfl, ⟨_, rfl, by kernel_rfl⟩, by kernel_rfl⟩
  · cases h; exact ⟨by kernel_rfl, Try.t60, by kernel_rfl, by kernel_rfl, ⟨_, rfl, by kernel_rfl⟩, by kernel_rfl⟩
  · cases h; exact ⟨by kernel_rfl, Try.t64, by kernel_rfl, by kernel_rfl, ⟨_, rfl, by kernel_rfl⟩, by kernel_rfl⟩
  · cases h; exact ⟨by kernel_rfl, Try.t66, by kernel_rfl, by kernel_rfl, ⟨_, rfl, by kernel_rfl⟩, by kernel_rfl⟩
  · cases h; exact ⟨by kernel_rfl, Try.t67, by kernel_rfl, by kernel_rfl, ⟨_, rfl, by kernel_rfl⟩, by kernel_rfl⟩
  · cases h; exact ⟨by kernel_rfl, Try.t69, by kernel_rfl, by kernel_rfl, ⟨_, rfl, by kernel_rfl⟩, by kernel_rfl⟩
  · cases h; exact ⟨by kernel_rfl, Try.t70, by kernel_rfl, by kernel_rfl, ⟨_, rfl, by kernel_rfl⟩, by kernel_rfl⟩
  · cases h; exact ⟨by kernel_rfl, Try.t74, by kernel_rfl, by kernel_rfl, ⟨_, rfl, by kernel_rfl⟩, by kernel_rfl⟩
  · cases h; exact ⟨by kernel_rfl, Try.t86, by kernel_rfl, by kernel_rfl, ⟨_, rfl, by kernel_rfl⟩, by kernel_rfl⟩
  · cases h; exact ⟨by kernel_rfl, Try.t89, by kernel_rfl, by kernel_rfl, ⟨_, rfl, by kernel_rfl⟩, by kernel_rfl⟩
  · cases h; exact ⟨by kernel_rfl, Try.t92, by kernel_rfl, by kernel_rfl, ⟨_, rfl, by kernel_rfl⟩, by kernel_rfl⟩
  · cases h; exact ⟨by kernel_rfl, Try.t98, by kernel_rfl, by kernel_rfl, ⟨_, rfl, by kernel_rfl⟩, by kernel_rfl⟩
  · cases h; exact ⟨by kernel_rfl, Try.t99, by kernel_rfl, by kernel_rfl, ⟨_, rfl, by kernel_rfl⟩, by kernel_rfl⟩
  · cases h; exact ⟨by kernel_rfl, Try.t100, by kernel_rfl, by kernel_rfl, ⟨_, rfl, by kernel_rfl⟩, by kernel_rfl⟩
  · cases h; exact ⟨by kernel_rfl, Try.t102, by kernel_rfl, by kernel_rfl, ⟨_, rfl, by kernel_rfl⟩, by kernel_rfl⟩
  · cases h; exact ⟨by kernel_rfl, Try.t120, by kernel_rfl, by kernel_rfl, ⟨_, rfl, by kernel_rfl⟩, by kernel_rfl⟩
  · cases h; exact ⟨by kernel_rfl, Try.t122, by kernel_rfl, by kernel_rfl, ⟨_, rfl, by kernel_rfl⟩, by kernel_rfl⟩
  · cases h; exact ⟨by kernel_rfl, Try.t124, by kernel_rfl, by kernel_rfl, ⟨_, rfl, by kernel_rfl⟩, by kernel_rfl⟩
  · cases h; exact ⟨by kernel_rfl, Try.t126, by kernel_rfl, by kernel_rfl, ⟨_, rfl, by kernel_rfl⟩, by kernel_rfl⟩
  · cases h; exact ⟨by kernel_rfl, Try.t128, by kernel_rfl, by kernel_rfl, ⟨_, rfl, by kernel_rfl⟩, by kernel_rfl⟩
  · cases h

noncomputable def okF : FuncId → Bool
  | 4 => true
  | 5 => true
  | 6 => true
  | 7 => true
  | 8 => true
  | 9 => true
  | 10 => true
  | 11 => true
  | 12 => true
  | 13 => true
  | 14 => true
  | 15 => true
  | 16 => true
  | 17 => true
  | 18 => true
  | 19 => true
  | 20 => true
  | 21 => true
  | 22 => true
  | 23 => true
  | 24 => true
  | 25 => true
  | 26 => true
  | 27 => true
  | 28 => true
  | 29 => true
  | 30 => true
  | 31 => true
  | 32 => true
  | 33 => true
  | 34 => true
  | 35 => true
  | 36 => true
  | 37 => true
  | 38 => true
  | 39 => true
  | 40 => true
  | 41 => true
  | 42 => true
  | 43 => true
  | 44 => true
  | 45 => true
  | 46 => true
  | 47 => true
  | 48 => true
  | 49 => true
  | 50 => true
  | 51 => true
  | 52 => true
  | 53 => true
  | 54 => true
  | 55 => true
  | 56 => true
  | 57 => true
  | 58 => true
  | 59 => true
  | 60 => true
  | 61 => true
  | _ => false

theorem okF_ok : ∀ f, okF f = true → Vc.Callee Try.prog f := by
  intro f h
  unfold okF at h
  split at h
  · exact Try.call4
  · exact Try.call5
  · exact Try.call6
  · exact Try.call7
  · exact Try.call8
  · exact Try.call9
  · exact Try.call10
  · exact Try.call11
  · exact Try.call12
  · exact Try.call13
  · exact Try.call14
  · exact Try.call15
  · exact Try.call16
  · exact Try.call17
  · exact Try.call18
  · exact Try.call19
  · exact Try.call20
  · exact Try.call21
  · exact Try.call22
  · exact Try.call23
  · exact Try.call24
  · exact Try.call25
  · exact Try.call26
  · exact Try.call27
  · exact Try.call28
  · exact Try.call29
  · exact Try.call30
  · exact Try.call31
  · exact Try.call32
  · exact Try.call33
  · exact Try.call34
  · exact Try.call35
  · exact Try.call36
  · exact Try.call37
  · exact Try.call38
  · exact Try.call39
  · exact Try.call40
  · exact Try.call41
  · exact Try.call42
  · exact Try.call43
  · exact Try.call44
  · exact Try.call45
  · exact Try.call46
  · exact Try.call47
  · exact Try.call48
  · exact Try.call49
  · exact Try.call50
  · exact Try.call51
  · exact Try.call52
  · exact Try.call53
  · exact Try.call54
  · exact Try.call55
  · exact Try.call56
  · exact Try.call57
  · exact Try.call58
  · exact Try.call59
  · exact Try.call60
  · exact Try.call61
  · cases h

theorem mixed : Try.prog.follows .mixedOrders = true := by kernel_rfl
end Go.Proofs.Ytjlkgedcpmoehaa
