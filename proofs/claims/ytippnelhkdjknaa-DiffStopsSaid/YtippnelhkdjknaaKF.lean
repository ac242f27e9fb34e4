/-
  The document's example: its operations, one by one.
-/
import Derived.Test.YtippnelhkdjknaaKE
import Derived.Test.YtippnelhkdjknaaE9
namespace Go.Proofs.Ytippnelhkdjknaa
open Go Go.RowKit Go.Eng Go.Proofs

noncomputable def l0 : Array Oper := regOps 0 (bodyOf Try.f10)
theorem l0_0 : ∃ ty pos af, l0[0]? = some ⟨some 0, .assign (.const (.bool false)), ty, pos, af, none⟩ := ⟨_, _, _, rfl⟩
theorem l0_n : l0.size = 1 := by kernel_rfl
noncomputable def l1 : Array Oper := regOps 1 (bodyOf Try.f10)
theorem l1_0 : ∃ ty pos af, l1[0]? = some ⟨some 5, .call { callee := .value (.func 24), args := #[], argTypes := #[] }, ty, pos, af, none⟩ := ⟨_, _, _, rfl⟩
theorem l1_1 : ∃ ty pos af, l1[1]? = some ⟨some 1, .alloc 29, ty, pos, af, none⟩ := ⟨_, _, _, rfl⟩
theorem l1_2 : ∃ ty pos af, l1[2]? = some ⟨none, .store 29 (.tmp 1) (.tmp 5), ty, pos, af, none⟩ := ⟨_, _, _, rfl⟩
theorem l1_n : l1.size = 3 := by kernel_rfl
noncomputable def l2 : Array Oper := regOps 2 (bodyOf Try.f10)
theorem l2_0 : ∃ ty pos af, l2[0]? = some ⟨some 7, .load 29 (.tmp 1), ty, pos, af, none⟩ := ⟨_, _, _, rfl⟩
theorem l2_1 : ∃ ty pos af, l2[1]? = some ⟨some 8, .call { callee := .value (.func 8), args := #[.tmp 7, .const (.int .i64 1)], argTypes := #[29, 3] }, ty, pos, af, none⟩ := ⟨_, _, _, rfl⟩
theorem l2_2 : ∃ ty pos af, l2[2]? = some ⟨some 6, .move (.tmp 8), ty, pos, af, none⟩ := ⟨_, _, _, rfl⟩
theorem l2_3 : ∃ ty pos af, l2[3]? = some ⟨some 9, .extract (.tmp 6) 0, ty, pos, af, none⟩ := ⟨_, _, _, rfl⟩
theorem l2_4 : ∃ ty pos af, l2[4]? = some ⟨some 10, .extract (.tmp 6) 1, ty, pos, af, none⟩ := ⟨_, _, _, rfl⟩
theorem l2_5 : ∃ ty pos af, l2[5]? = some ⟨some 2, .assign (.tmp 9), ty, pos, af, none⟩ := ⟨_, _, _, rfl⟩
theorem l2_6 : ∃ ty pos af, l2[6]? = some ⟨some 3, .assign (.tmp 10), ty, pos, af, none⟩ := ⟨_, _, _, rfl⟩
theorem l2_n : l2.size = 7 := by kernel_rfl
noncomputable def l3 : Array Oper := regOps 3 (bodyOf Try.f10)
theorem l3_0 : ∃ ty pos af, l3[0]? = some ⟨some 11, .move (.tmp 2), ty, pos, af, none⟩ := ⟨_, _, _, rfl⟩
theorem l3_1 : ∃ ty pos af, l3[1]? = some ⟨some 12, .call { callee := .builtin .len, args := #[.tmp 11], argTypes := #[30] }, ty, pos, af, none⟩ := ⟨_, _, _, rfl⟩
theorem l3_2 : ∃ ty pos af, l3[2]? = some ⟨some 13, .binOp .eql 3 (.tmp 12) (.const (.int .i64 1)) 3, ty, pos, af, none⟩ := ⟨_, _, _, rfl⟩
theorem l3_3 : ∃ ty pos af, l3[3]? = some ⟨some 14, .move (.tmp 13), ty, pos, af, none⟩ := ⟨_, _, _, rfl⟩
theorem l3_4 : ∃ ty pos af, l3[4]? = some ⟨some 15, .move (.tmp 2), ty, pos, af, some (3, true)⟩ := ⟨_, _, _, rfl⟩
theorem l3_5 : ∃ ty pos af, l3[5]? = some ⟨some 16, .indexAddr 30 (.tmp 15) (.const (.int .i64 0)), ty, pos, af, some (3, true)⟩ := ⟨_, _, _, rfl⟩
theorem l3_6 : ∃ ty pos af, l3[6]? = some ⟨some 17, .load 3 (.tmp 16), ty, pos, af, some (3, true)⟩ := ⟨_, _, _, rfl⟩
theorem l3_7 : ∃ ty pos af, l3[7]? = some ⟨some 18, .binOp .eql 3 (.tmp 17) (.const (.int .i64 5)) 3, ty, pos, af, some (3, true)⟩ := ⟨_, _, _, rfl⟩
theorem l3_8 : ∃ ty pos af, l3[8]? = some ⟨some 19, .pick (.tmp 14) (.tmp 18) (.const (.bool false)), ty, pos, af, none⟩ := ⟨_, _, _, rfl⟩
theorem l3_9 : ∃ ty pos af, l3[9]? = some ⟨some 20, .move (.tmp 19), ty, pos, af, none⟩ := ⟨_, _, _, rfl⟩
theorem l3_10 : ∃ ty pos af, l3[10]? = some ⟨some 21, .move (.tmp 3), ty, pos, af, some (9, true)⟩ := ⟨_, _, _, rfl⟩
theorem l3_11 : ∃ ty pos af, l3[11]? = some ⟨some 22, .call { callee := .builtin .len, args := #[.tmp 21], argTypes := #[31] }, ty, pos, af, some (9, true)⟩ := ⟨_, _, _, rfl⟩
theorem l3_12 : ∃ ty pos af, l3[12]? = some ⟨some 23, .binOp .eql 3 (.tmp 22) (.const (.int .i64 0)) 3, ty, pos, af, some (9, true)⟩ := ⟨_, _, _, rfl⟩
theorem l3_13 : ∃ ty pos af, l3[13]? = some ⟨some 24, .pick (.tmp 20) (.tmp 23) (.const (.bool false)), ty, pos, af, none⟩ := ⟨_, _, _, rfl⟩
theorem l3_14 : ∃ ty pos af, l3[14]? = some ⟨some 4, .assign (.tmp 24), ty, pos, af, none⟩ := ⟨_, _, _, rfl⟩
theorem l3_n : l3.size = 15 := by kernel_rfl
noncomputable def l4 : Array Oper := regOps 4 (bodyOf Try.f10)
theorem l4_0 : ∃ ty pos af, l4[0]? = some ⟨some 25, .fieldAddr 29 (.tmp 1) 5, ty, pos, af, none⟩ := ⟨_, _, _, rfl⟩
theorem l4_1 : ∃ ty pos af, l4[1]? = some ⟨some 26, .load 24 (.tmp 25), ty, pos, af, none⟩ := ⟨_, _, _, rfl⟩
theorem l4_2 : ∃ ty pos af, l4[2]? = some ⟨some 27, .indexAddr 24 (.tmp 26) (.const (.int .i64 0)), ty, pos, af, none⟩ := ⟨_, _, _, rfl⟩
theorem l4_3 : ∃ ty pos af, l4[3]? = some ⟨some 28, .fieldAddr 40 (.tmp 27) 9, ty, pos, af, none⟩ := ⟨_, _, _, rfl⟩
theorem l4_4 : ∃ ty pos af, l4[4]? = some ⟨none, .store 3 (.tmp 28) (.const (.int .i64 5)), ty, pos, af, none⟩ := ⟨_, _, _, rfl⟩
theorem l4_n : l4.size = 5 := by kernel_rfl
noncomputable def l5 : Array Oper := regOps 5 (bodyOf Try.f10)
theorem l5_0 : ∃ ty pos af, l5[0]? = some ⟨some 30, .load 29 (.tmp 1), ty, pos, af, none⟩ := ⟨_, _, _, rfl⟩
theorem l5_1 : ∃ ty pos af, l5[1]? = some ⟨some 31, .call { callee := .value (.func 8), args := #[.tmp 30, .const (.int .i64 1)], argTypes := #[29, 3] }, ty, pos, af, none⟩ := ⟨_, _, _, rfl⟩
theorem l5_2 : ∃ ty pos af, l5[2]? = some ⟨some 29, .move (.tmp 31), ty, pos, af, none⟩ := ⟨_, _, _, rfl⟩
theorem l5_3 : ∃ ty pos af, l5[3]? = some ⟨some 32, .extract (.tmp 29) 0, ty, pos, af, none⟩ := ⟨_, _, _, rfl⟩
theorem l5_4 : ∃ ty pos af, l5[4]? = some ⟨some 33, .extract (.tmp 29) 1, ty, pos, af, none⟩ := ⟨_, _, _, rfl⟩
theorem l5_5 : ∃ ty pos af, l5[5]? = some ⟨some 2, .assign (.tmp 32), ty, pos, af, none⟩ := ⟨_, _, _, rfl⟩
theorem l5_6 : ∃ ty pos af, l5[6]? = some ⟨some 3, .assign (.tmp 33), ty, pos, af, none⟩ := ⟨_, _, _, rfl⟩
theorem l5_n : l5.size = 7 := by kernel_rfl
noncomputable def l6 : Array Oper := regOps 6 (bodyOf Try.f10)
theorem l6_0 : ∃ ty pos af, l6[0]? = some ⟨some 34, .move (.tmp 4), ty, pos, af, none⟩ := ⟨_, _, _, rfl⟩
theorem l6_1 : ∃ ty pos af, l6[1]? = some ⟨some 35, .move (.tmp 34), ty, pos, af, none⟩ := ⟨_, _, _, rfl⟩
theorem l6_2 : ∃ ty pos af, l6[2]? = some ⟨some 36, .move (.tmp 2), ty, pos, af, some (1, true)⟩ := ⟨_, _, _, rfl⟩
theorem l6_3 : ∃ ty pos af, l6[3]? = some ⟨some 37, .call { callee := .builtin .len, args := #[.tmp 36], argTypes := #[30] }, ty, pos, af, some (1, true)⟩ := ⟨_, _, _, rfl⟩
theorem l6_4 : ∃ ty pos af, l6[4]? = some ⟨some 38, .binOp .eql 3 (.tmp 37) (.const (.int .i64 0)) 3, ty, pos, af, some (1, true)⟩ := ⟨_, _, _, rfl⟩
theorem l6_5 : ∃ ty pos af, l6[5]? = some ⟨some 39, .pick (.tmp 35) (.tmp 38) (.const (.bool false)), ty, pos, af, none⟩ := ⟨_, _, _, rfl⟩
theorem l6_6 : ∃ ty pos af, l6[6]? = some ⟨some 40, .move (.tmp 39), ty, pos, af, none⟩ := ⟨_, _, _, rfl⟩
theorem l6_7 : ∃ ty pos af, l6[7]? = some ⟨some 41, .move (.tmp 3), ty, pos, af, some (6, true)⟩ := ⟨_, _, _, rfl⟩
theorem l6_8 : ∃ ty pos af, l6[8]? = some ⟨some 42, .call { callee := .builtin .len, args := #[.tmp 41], argTypes := #[31] }, ty, pos, af, some (6, true)⟩ := ⟨_, _, _, rfl⟩
theorem l6_9 : ∃ ty pos af, l6[9]? = some ⟨some 43, .binOp .eql 3 (.tmp 42) (.const (.int .i64 1)) 3, ty, pos, af, some (6, true)⟩ := ⟨_, _, _, rfl⟩
theorem l6_10 : ∃ ty pos af, l6[10]? = some ⟨some 44, .pick (.tmp 40) (.tmp 43) (.const (.bool false)), ty, pos, af, none⟩ := ⟨_, _, _, rfl⟩
theorem l6_11 : ∃ ty pos af, l6[11]? = some ⟨some 45, .move (.tmp 44), ty, pos, af, none⟩ := ⟨_, _, _, rfl⟩
theorem l6_12 : ∃ ty pos af, l6[12]? = some ⟨some 46, .move (.tmp 3), ty, pos, af, some (11, true)⟩ := ⟨_, _, _, rfl⟩
theorem l6_13 : ∃ ty pos af, l6[13]? = some ⟨some 47, .indexAddr 31 (.tmp 46) (.const (.int .i64 0)), ty, pos, af, some (11, true)⟩ := ⟨_, _, _, rfl⟩
theorem l6_14 : ∃ ty pos af, l6[14]? = some ⟨some 48, .load 36 (.tmp 47), ty, pos, af, some (11, true)⟩ := ⟨_, _, _, rfl⟩
theorem l6_15 : ∃ ty pos af, l6[15]? = some ⟨some 49, .build 36 #[], ty, pos, af, some (11, true)⟩ := ⟨_, _, _, rfl⟩
theorem l6_16 : ∃ ty pos af, l6[16]? = some ⟨some 50, .binOp .eql 36 (.tmp 48) (.tmp 49) 36, ty, pos, af, some (11, true)⟩ := ⟨_, _, _, rfl⟩
theorem l6_17 : ∃ ty pos af, l6[17]? = some ⟨some 51, .pick (.tmp 45) (.tmp 50) (.const (.bool false)), ty, pos, af, none⟩ := ⟨_, _, _, rfl⟩
theorem l6_18 : ∃ ty pos af, l6[18]? = some ⟨some 0, .assign (.tmp 51), ty, pos, af, none⟩ := ⟨_, _, _, rfl⟩
theorem l6_n : l6.size = 19 := by kernel_rfl

theorem body10 : bodyOf Try.f10 = .seq (.region 0 l0 false) (.seq (.region 1 l1 false) (.seq (.region 2 l2 false) (.seq (.region 3 l3 false) (.seq (.region 4 l4 false) (.seq (.region 5 l5 false) (.seq (.region 6 l6 false) .ret)))))) := by kernel_rfl
theorem f10_body : Try.f10.body = some (bodyOf Try.f10) := by kernel_rfl
theorem f10_nt : Try.f10.ntmps = 52 := by kernel_rfl
theorem f10_enter (args : Array Value) (w : World) : (callFunc 10 args).run Try.prog w = .ok (.enter 10 args) w := by
  unfold callFunc
  have hn : Try.f10.name ≠ "runtime.NumGoroutine" := by decide +kernel
  simp [Try.func10, f10_body, hn]
end Go.Proofs.Ytippnelhkdjknaa
