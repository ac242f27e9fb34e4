/-
  The iterator of a job's slots: its operations, one by one.
-/
import Derived.Test.YtippnelhkdjknaaCR
import Derived.Test.YtippnelhkdjknaaE9
namespace Go.Proofs.Ytippnelhkdjknaa
open Go Go.RowKit Go.Eng Go.Proofs

noncomputable def o0 : Array Oper := regOps 0 (bodyOf Try.f29)
theorem o0_0 : ∃ ty pos af, o0[0]? = some ⟨some 7, .fieldAddr 46 (.tmp 1) 6, ty, pos, af, none⟩ := ⟨_, _, _, rfl⟩
theorem o0_1 : ∃ ty pos af, o0[1]? = some ⟨some 8, .load 4 (.tmp 7), ty, pos, af, none⟩ := ⟨_, _, _, rfl⟩
theorem o0_n : o0.size = 2 := by kernel_rfl
noncomputable def o1 : Array Oper := regOps 1 (bodyOf Try.f29)
theorem o1_0 : ∃ ty pos af, o1[0]? = some ⟨some 9, .fieldAddr 46 (.tmp 1) 4, ty, pos, af, none⟩ := ⟨_, _, _, rfl⟩
theorem o1_1 : ∃ ty pos af, o1[1]? = some ⟨some 10, .load 44 (.tmp 9), ty, pos, af, none⟩ := ⟨_, _, _, rfl⟩
theorem o1_2 : ∃ ty pos af, o1[2]? = some ⟨some 11, .call { callee := .builtin .len, args := #[.tmp 10], argTypes := #[44] }, ty, pos, af, none⟩ := ⟨_, _, _, rfl⟩
theorem o1_3 : ∃ ty pos af, o1[3]? = some ⟨some 12, .move (.const (.int .i64 0)), ty, pos, af, none⟩ := ⟨_, _, _, rfl⟩
theorem o1_n : o1.size = 4 := by kernel_rfl
noncomputable def o2 : Array Oper := regOps 2 (bodyOf Try.f29)
theorem o2_0 : ∃ ty pos af, o2[0]? = some ⟨some 13, .binOp .lss 3 (.tmp 12) (.tmp 11) 3, ty, pos, af, none⟩ := ⟨_, _, _, rfl⟩
theorem o2_n : o2.size = 1 := by kernel_rfl
noncomputable def o3 : Array Oper := regOps 3 (bodyOf Try.f29)
theorem o3_0 : ∃ ty pos af, o3[0]? = some ⟨some 14, .move (.tmp 12), ty, pos, af, none⟩ := ⟨_, _, _, rfl⟩
theorem o3_1 : ∃ ty pos af, o3[1]? = some ⟨some 4, .assign (.tmp 14), ty, pos, af, none⟩ := ⟨_, _, _, rfl⟩
theorem o3_n : o3.size = 2 := by kernel_rfl
noncomputable def o4 : Array Oper := regOps 4 (bodyOf Try.f29)
theorem o4_0 : ∃ ty pos af, o4[0]? = some ⟨some 15, .load 29 (.tmp 2), ty, pos, af, none⟩ := ⟨_, _, _, rfl⟩
theorem o4_1 : ∃ ty pos af, o4[1]? = some ⟨some 16, .load 46 (.tmp 1), ty, pos, af, none⟩ := ⟨_, _, _, rfl⟩
theorem o4_2 : ∃ ty pos af, o4[2]? = some ⟨some 17, .move (.tmp 4), ty, pos, af, none⟩ := ⟨_, _, _, rfl⟩
theorem o4_3 : ∃ ty pos af, o4[3]? = some ⟨some 18, .call { callee := .value (.func 30), args := #[.tmp 15, .tmp 16, .tmp 17], argTypes := #[29, 46, 3] }, ty, pos, af, none⟩ := ⟨_, _, _, rfl⟩
theorem o4_4 : ∃ ty pos af, o4[4]? = some ⟨some 19, .call { callee := .builtin .len, args := #[.tmp 18], argTypes := #[30] }, ty, pos, af, none⟩ := ⟨_, _, _, rfl⟩
theorem o4_5 : ∃ ty pos af, o4[5]? = some ⟨some 20, .move (.const (.int .i64 0)), ty, pos, af, none⟩ := ⟨_, _, _, rfl⟩
theorem o4_n : o4.size = 6 := by kernel_rfl
noncomputable def o5 : Array Oper := regOps 5 (bodyOf Try.f29)
theorem o5_0 : ∃ ty pos af, o5[0]? = some ⟨some 21, .binOp .lss 3 (.tmp 20) (.tmp 19) 3, ty, pos, af, none⟩ := ⟨_, _, _, rfl⟩
theorem o5_n : o5.size = 1 := by kernel_rfl
noncomputable def o6 : Array Oper := regOps 6 (bodyOf Try.f29)
theorem o6_0 : ∃ ty pos af, o6[0]? = some ⟨some 22, .indexAddr 30 (.tmp 18) (.tmp 20), ty, pos, af, none⟩ := ⟨_, _, _, rfl⟩
theorem o6_1 : ∃ ty pos af, o6[1]? = some ⟨some 23, .load 3 (.tmp 22), ty, pos, af, none⟩ := ⟨_, _, _, rfl⟩
theorem o6_2 : ∃ ty pos af, o6[2]? = some ⟨some 6, .assign (.tmp 23), ty, pos, af, none⟩ := ⟨_, _, _, rfl⟩
theorem o6_n : o6.size = 3 := by kernel_rfl
noncomputable def o7 : Array Oper := regOps 7 (bodyOf Try.f29)
theorem o7_0 : ∃ ty pos af, o7[0]? = some ⟨some 24, .move (.tmp 0), ty, pos, af, none⟩ := ⟨_, _, _, rfl⟩
theorem o7_1 : ∃ ty pos af, o7[1]? = some ⟨some 25, .move (.tmp 4), ty, pos, af, none⟩ := ⟨_, _, _, rfl⟩
theorem o7_2 : ∃ ty pos af, o7[2]? = some ⟨some 26, .move (.tmp 6), ty, pos, af, none⟩ := ⟨_, _, _, rfl⟩
theorem o7_3 : ∃ ty pos af, o7[3]? = some ⟨some 27, .build 36 #[(0, .tmp 25), (1, .tmp 26)], ty, pos, af, none⟩ := ⟨_, _, _, rfl⟩
theorem o7_4 : ∃ ty pos af, o7[4]? = some ⟨some 28, .call { callee := .value (.tmp 24), args := #[.tmp 27], argTypes := #[36] }, ty, pos, af, none⟩ := ⟨_, _, _, rfl⟩
theorem o7_5 : ∃ ty pos af, o7[5]? = some ⟨some 29, .unOp .not 4 (.tmp 28), ty, pos, af, none⟩ := ⟨_, _, _, rfl⟩
theorem o7_n : o7.size = 6 := by kernel_rfl
noncomputable def o8 : Array Oper := regOps 8 (bodyOf Try.f29)
theorem o8_0 : ∃ ty pos af, o8[0]? = some ⟨some 30, .binOp .add 3 (.tmp 20) (.const (.int .i64 1)) 3, ty, pos, af, none⟩ := ⟨_, _, _, rfl⟩
theorem o8_1 : ∃ ty pos af, o8[1]? = some ⟨some 20, .move (.tmp 30), ty, pos, af, none⟩ := ⟨_, _, _, rfl⟩
theorem o8_n : o8.size = 2 := by kernel_rfl
noncomputable def o9 : Array Oper := regOps 9 (bodyOf Try.f29)
theorem o9_0 : ∃ ty pos af, o9[0]? = some ⟨some 31, .binOp .add 3 (.tmp 12) (.const (.int .i64 1)) 3, ty, pos, af, none⟩ := ⟨_, _, _, rfl⟩
theorem o9_1 : ∃ ty pos af, o9[1]? = some ⟨some 12, .move (.tmp 31), ty, pos, af, none⟩ := ⟨_, _, _, rfl⟩
theorem o9_n : o9.size = 2 := by kernel_rfl

noncomputable def in29 : Code := .seq (.region 5 o5 false) (.seq (.cond (.tmp 21) .skip (.exit 2)) (.seq (.block 3 (.seq (.region 6 o6 false) (.seq (.region 7 o7 false) (.cond (.tmp 29) .ret .skip)))) (.region 8 o8 false)))
noncomputable def out29 : Code := .seq (.region 2 o2 false) (.seq (.cond (.tmp 13) .skip (.exit 0)) (.seq (.block 1 (.seq (.region 3 o3 false) (.seq (.region 4 o4 false) (.block 2 (.loop in29))))) (.region 9 o9 false)))
theorem body29 : bodyOf Try.f29 = .seq (.seq (.region 0 o0 false) (.cond (.tmp 8) .ret .skip)) (.seq (.region 1 o1 false) (.block 0 (.loop out29))) := by kernel_rfl
end Go.Proofs.Ytippnelhkdjknaa
