/-
  Signatures, tables and conditions of the functions of this seat, as a program of ours printed them.
-/
import Derived.Test.YtcmejjgjkjiggabEngZ
import Derived.Test.YtcmejjgjkjiggabEngW
import Derived.Test.YtcmejjgjkjiggabProg
namespace Go.Proofs.Ytcmejjgjkjiggab
open Go Go.Eng Go.Proofs


def confT : Ty := .agg (.ofL [.list (.int .i64), .list (.int .i64)])
def s38 : Sig := ⟨[.list (.int .i64), .int .i64], [(false, [(.int .i64, none)])], none⟩
def tb38 : List (Nat × Sig) := (38, s38) :: []
def s22 : Sig := ⟨[.list (.int .i64), .int .i64], [(false, [(.bool, none)])], none⟩
def tb22 : List (Nat × Sig) := (22, s22) :: tb38
def s23 : Sig := ⟨[.list (.int .i64)], [(false, [(.int .i64, some (1, 3))])], none⟩
def tb23 : List (Nat × Sig) := (23, s23) :: tb22
def s35 : Sig := ⟨[.list (.int .i64)], [], some ⟨[], [], [[], []], false⟩⟩
def tb35 : List (Nat × Sig) := (35, s35) :: tb23
def s36 : Sig := ⟨[.list (.int .i64)], [(false, [(.list (.int .i64), none)])], some ⟨[], [], [[], []], false⟩⟩
def tb36 : List (Nat × Sig) := (36, s36) :: tb35
def s34 : Sig := ⟨[.list (.int .i64), .list (.int .i64)], [(false, [(.bool, none)])], none⟩
def tb34 : List (Nat × Sig) := (34, s34) :: tb36
def s33 : Sig := ⟨[.list (.int .i64)], [(false, [(.bool, none)])], none⟩
def tb33 : List (Nat × Sig) := (33, s33) :: tb34
def s16 : Sig := ⟨[confT], [(false, [(.bool, none)])], none⟩
def tb16 : List (Nat × Sig) := (16, s16) :: tb33
def s18 : Sig := ⟨[confT, confT], [(false, [(.bool, none)])], none⟩
def tb18 : List (Nat × Sig) := (18, s18) :: tb16
def s17 : Sig := ⟨[confT, .int .i64], [(false, [(.bool, none)])], none⟩
def tb17 : List (Nat × Sig) := (17, s17) :: tb18
def s20 : Sig := ⟨[confT], [(false, [(.int .i64, some (0, 3))])], none⟩
def tb20 : List (Nat × Sig) := (20, s20) :: tb17
def s31 : Sig := ⟨[confT, .list (.int .i64)], [(false, [(.bool, none)])], none⟩
def tb31 : List (Nat × Sig) := (31, s31) :: tb20
def s32 : Sig := ⟨[confT, .list (.int .i64)], [(false, [(.int .i64, none)])], none⟩
def tb32 : List (Nat × Sig) := (32, s32) :: tb31
def s6 : Sig := ⟨[confT, confT], [(false, [(.bool, none)])], none⟩
def tb6 : List (Nat × Sig) := (6, s6) :: tb32
def s24 : Sig := ⟨[.list (.int .i64), .int .i64], [(false, [(.int .i64, some (0, 3))])], none⟩
def tb24 : List (Nat × Sig) := (24, s24) :: tb6
def s8 : Sig := ⟨[confT, .int .i64], [(true, [(.int .i64, some (0, 3)), (.int .i64, some (1, 3))]), (false, [(.int .i64, none)])], none⟩
def tb8 : List (Nat × Sig) := (8, s8) :: tb24
def s19 : Sig := ⟨[.list (.int .i64), .int .i64], [(false, [(.bool, none)])], none⟩
def tb19 : List (Nat × Sig) := (19, s19) :: tb8
def s37 : Sig := ⟨[.list (.int .i64)], [(false, [(.bool, none)])], none⟩
def tb37 : List (Nat × Sig) := (37, s37) :: tb19
def s21 : Sig := ⟨[confT], [(false, [(.bool, none)])], none⟩
def tb21 : List (Nat × Sig) := (21, s21) :: tb37
def s28 : Sig := ⟨[.list (.int .i64), .list (.int .i64)], [(false, [(.bool, none)])], none⟩
def tb28 : List (Nat × Sig) := (28, s28) :: tb21
def s10 : Sig := ⟨[confT, confT], [(false, [(.bool, none)])], none⟩
def tb10 : List (Nat × Sig) := (10, s10) :: tb28
def s27 : Sig := ⟨[.list (.int .i64), .int .i64], [(false, [(.list (.int .i64), none)])], none⟩
def tb27 : List (Nat × Sig) := (27, s27) :: tb10
def s25 : Sig := ⟨[confT], [(false, [(.list (.int .i64), none)])], none⟩
def tb25 : List (Nat × Sig) := (25, s25) :: tb27
def s15 : Sig := ⟨[], [(false, [(.bool, none)])], none⟩
def tb15 : List (Nat × Sig) := (15, s15) :: tb25
def s29 : Sig := ⟨[.list (.int .i64), .int .i64], [(false, [(.int .i64, some (0, 3))])], none⟩
def tb29 : List (Nat × Sig) := (29, s29) :: tb15
def s11 : Sig := ⟨[confT, .int .i64], [(true, [(.int .i64, some (0, 3)), (.int .i64, some (1, 3))]), (false, [(.int .i64, none)])], none⟩
def tb11 : List (Nat × Sig) := (11, s11) :: tb29
def s13 : Sig := ⟨[confT, .int .i64], [(true, [(.int .i64, some (0, 3)), (.int .i64, some (1, 3))]), (false, [(.int .i64, none)])], none⟩
def tb13 : List (Nat × Sig) := (13, s13) :: tb11
def s7 : Sig := ⟨[confT, confT], [(false, [(.bool, none)])], none⟩
def tb7 : List (Nat × Sig) := (7, s7) :: tb13
def s26 : Sig := ⟨[.list (.int .i64)], [(false, [(.list (.int .i64), none)])], none⟩
def tb26 : List (Nat × Sig) := (26, s26) :: tb7
def s30 : Sig := ⟨[.list (.int .i64), .int .i64], [(false, [(.list (.int .i64), none)])], none⟩
def tb30 : List (Nat × Sig) := (30, s30) :: tb26
def s9 : Sig := ⟨[confT, .int .i64], [(true, confT.cells.map fun c => (c, none)), (false, [(.int .i64, none)])], none⟩
def tb9 : List (Nat × Sig) := (9, s9) :: tb30
def s12 : Sig := ⟨[confT, .int .i64], [(true, confT.cells.map fun c => (c, none)), (false, [(.int .i64, none)])], none⟩
def tb12 : List (Nat × Sig) := (12, s12) :: tb9
def s14 : Sig := ⟨[confT, .int .i64], [(true, confT.cells.map fun c => (c, none)), (false, [(.int .i64, none)])], none⟩
def tb14 : List (Nat × Sig) := (14, s14) :: tb12
def s3 : Sig := ⟨[confT, confT, .int .i64], [(false, [(.bool, none)])], none⟩
def tb3 : List (Nat × Sig) := (3, s3) :: tb14
def s4 : Sig := ⟨[confT, .int .i64], [(false, [(.bool, none)])], none⟩
def tb4 : List (Nat × Sig) := (4, s4) :: tb3
def s5 : Sig := ⟨[confT, .int .i64], [(false, [(.bool, none)])], none⟩
def tb5 : List (Nat × Sig) := (5, s5) :: tb4
def vc38 : VC :=
  .loop 6 [.kint .i64 (0), .kint .i64 (0)] [.int .i64, .int .i64] (
    .branch (.bin (.lt) (.var 7) (.un (.len) (.var 0))) (
      .obl [] (.bin (.and) (.bin (.le) (.kint .i64 (0)) (.var 7)) (.bin (.lt) (.var 7) (.un (.len) (.var 0)))) <|
      .branch (.bin (.eq) (.var 1) (.bin (.idx) (.var 0) (.var 7))) (
        .ret (.var 7))
        (
        .again 0 [.var 6, .bin (.add .i64) (.var 7) (.kint .i64 (1))]))
      (
      .ret (.kint .i64 (-1))))
def vc22 : VC :=
  .call 5 38 (.cons (.var 0) (.cons (.var 1) (.nil))) [] <|
  .ret (.bin (.ge) (.var 5) (.kint .i64 (0)))
def vc34 : VC :=
  .branch (.bin (.ne) (.un (.len) (.var 0)) (.un (.len) (.var 1))) (
    .ret (.kbool false))
    (
    .loop 11 [.kbool false, .kint .i64 (0)] [.bool, .int .i64] (
      .branch (.bin (.lt) (.var 12) (.un (.len) (.var 0))) (
        .obl [] (.bin (.and) (.bin (.le) (.kint .i64 (0)) (.var 12)) (.bin (.lt) (.var 12) (.un (.len) (.var 0)))) <|
        .obl [] (.bin (.and) (.bin (.le) (.kint .i64 (0)) (.var 12)) (.bin (.lt) (.var 12) (.un (.len) (.var 1)))) <|
        .branch (.bin (.ne) (.bin (.idx) (.var 0) (.var 12)) (.bin (.idx) (.var 1) (.var 12))) (
          .ret (.kbool false))
          (
          .again 0 [.var 11, .bin (.add .i64) (.var 12) (.kint .i64 (1))]))
        (
        .ret (.kbool true))))
def vc33 : VC :=
  .loop 5 [.kbool false, .kint .i64 (0)] [.bool, .int .i64] (
    .branch (.bin (.lt) (.var 6) (.un (.len) (.var 0))) (
      .obl [] (.bin (.and) (.bin (.le) (.kint .i64 (0)) (.var 6)) (.bin (.lt) (.var 6) (.un (.len) (.var 0)))) <|
      .obl [(.bin (.lt) (.bin (.idx) (.var 0) (.var 6)) (.kint .i64 (1)), false)] (.bin (.and) (.bin (.le) (.kint .i64 (0)) (.var 6)) (.bin (.lt) (.var 6) (.un (.len) (.var 0)))) <|
      .obl [(.bin (.gt) (.var 6) (.kint .i64 (0)), true), (.bin (.or) (.bin (.lt) (.bin (.idx) (.var 0) (.var 6)) (.kint .i64 (1))) (.bin (.gt) (.bin (.idx) (.var 0) (.var 6)) (.kint .i64 (5))), false)] (.bin (.and) (.bin (.le) (.kint .i64 (0)) (.bin (.sub .i64) (.var 6) (.kint .i64 (1)))) (.bin (.lt) (.bin (.sub .i64) (.var 6) (.kint .i64 (1))) (.un (.len) (.var 0)))) <|
      .obl [(.bin (.gt) (.var 6) (.kint .i64 (0)), true), (.bin (.or) (.bin (.lt) (.bin (.idx) (.var 0) (.var 6)) (.kint .i64 (1))) (.bin (.gt) (.bin (.idx) (.var 0) (.var 6)) (.kint .i64 (5))), false)] (.bin (.and) (.bin (.le) (.kint .i64 (0)) (.var 6)) (.bin (.lt) (.var 6) (.un (.len) (.var 0)))) <|
      .branch (.bin (.or) (.bin (.or) (.bin (.lt) (.bin (.idx) (.var 0) (.var 6)) (.kint .i64 (1))) (.bin (.gt) (.bin (.idx) (.var 0) (.var 6)) (.kint .i64 (5)))) (.bin (.and) (.bin (.gt) (.var 6) (.kint .i64 (0))) (.bin (.ge) (.bin (.idx) (.var 0) (.bin (.sub .i64) (.var 6) (.kint .i64 (1)))) (.bin (.idx) (.var 0) (.var 6))))) (
        .ret (.kbool false))
        (
        .again 0 [.var 5, .bin (.add .i64) (.var 6) (.kint .i64 (1))]))
      (
      .ret (.kbool true)))
def vc16 : VC :=
  .call 5 33 (.cons (.un (.cell 0) (.var 0)) (.nil)) [] <|
  .call 10 33 (.cons (.un (.cell 1) (.var 0)) (.nil)) [(.un (.not) (.var 5), false)] <|
  .branch (.bin (.or) (.bin (.or) (.un (.not) (.var 5)) (.un (.not) (.var 10))) (.bin (.eq) (.un (.len) (.un (.cell 0) (.var 0))) (.kint .i64 (0)))) (
    .ret (.kbool false))
    (
    .loop 23 [.kbool false, .kint .i64 (0)] [.bool, .int .i64] (
      .branch (.bin (.lt) (.var 24) (.un (.len) (.un (.cell 1) (.var 0)))) (
        .obl [] (.bin (.and) (.bin (.le) (.kint .i64 (0)) (.var 24)) (.bin (.lt) (.var 24) (.un (.len) (.un (.cell 1) (.var 0))))) <|
        .call 35 22 (.cons (.un (.cell 0) (.var 0)) (.cons (.bin (.idx) (.un (.cell 1) (.var 0)) (.var 24)) (.nil))) [] <|
        .branch (.var 35) (
          .ret (.kbool false))
          (
          .again 0 [.var 23, .bin (.add .i64) (.var 24) (.kint .i64 (1))]))
        (
        .ret (.kbool true))))
def vc18 : VC :=
  .call 9 34 (.cons (.un (.cell 0) (.var 0)) (.cons (.un (.cell 0) (.var 1)) (.nil))) [] <|
  .call 15 34 (.cons (.un (.cell 1) (.var 0)) (.cons (.un (.cell 1) (.var 1)) (.nil))) [(.var 9, true)] <|
  .ret (.bin (.and) (.var 9) (.var 15))
def vc17 : VC :=
  .call 7 22 (.cons (.un (.cell 0) (.var 0)) (.cons (.var 1) (.nil))) [] <|
  .ret (.var 7)
def vc20 : VC :=
  .call 5 23 (.cons (.un (.cell 0) (.var 0)) (.nil)) [] <|
  .room [] (.bin (.cat) (.var 5) (.un (.cell 1) (.var 0))) 8 <|
  .call 11 35 (.cons (.bin (.cat) (.var 5) (.un (.cell 1) (.var 0))) (.nil)) [] <|
  .call 13 36 (.cons (.var 11) (.nil)) [] <|
  .ret (.var 13)
def vc31 : VC :=
  .loop 9 [.kint .i64 (0), .kint .i64 (0)] [.int .i64, .int .i64] (
    .branch (.bin (.lt) (.var 10) (.un (.len) (.un (.cell 0) (.var 0)))) (
      .obl [] (.bin (.and) (.bin (.le) (.kint .i64 (0)) (.var 10)) (.bin (.lt) (.var 10) (.un (.len) (.un (.cell 0) (.var 0))))) <|
      .call 20 22 (.cons (.var 1) (.cons (.bin (.idx) (.un (.cell 0) (.var 0)) (.var 10)) (.nil))) [] <|
      .branch (.var 20) (
        .again 0 [.bin (.add .i64) (.var 9) (.kint .i64 (1)), .bin (.add .i64) (.var 10) (.kint .i64 (1))])
        (
        .again 0 [.var 9, .bin (.add .i64) (.var 10) (.kint .i64 (1))]))
      (
      .ret (.bin (.gt) (.bin (.mul .i64) (.kint .i64 (2)) (.var 9)) (.un (.len) (.un (.cell 0) (.var 0))))))
def vc32 : VC :=
  .loop 9 [.nil, .kint .i64 (0)] [.list (.int .i64), .int .i64] (
    .branch (.bin (.lt) (.var 10) (.un (.len) (.un (.cell 0) (.var 0)))) (
      .obl [] (.bin (.and) (.bin (.le) (.kint .i64 (0)) (.var 10)) (.bin (.lt) (.var 10) (.un (.len) (.un (.cell 0) (.var 0))))) <|
      .branch (.bin (.and) (.bin (.ge) (.bin (.idx) (.un (.cell 0) (.var 0)) (.var 10)) (.kint .i64 (1))) (.bin (.le) (.bin (.idx) (.un (.cell 0) (.var 0)) (.var 10)) (.un (.len) (.var 1)))) (
        .obl [] (.bin (.and) (.bin (.le) (.kint .i64 (0)) (.bin (.sub .i64) (.bin (.idx) (.un (.cell 0) (.var 0)) (.var 10)) (.kint .i64 (1)))) (.bin (.lt) (.bin (.sub .i64) (.bin (.idx) (.un (.cell 0) (.var 0)) (.var 10)) (.kint .i64 (1))) (.un (.len) (.var 1)))) <|
        .room [] (.bin (.cat) (.var 9) (.cons (.bin (.max .i64) (.kint .i64 (0)) (.bin (.idx) (.var 1) (.bin (.sub .i64) (.bin (.idx) (.un (.cell 0) (.var 0)) (.var 10)) (.kint .i64 (1))))) (.nil))) 8 <|
        .again 0 [.bin (.cat) (.var 9) (.cons (.bin (.max .i64) (.kint .i64 (0)) (.bin (.idx) (.var 1) (.bin (.sub .i64) (.bin (.idx) (.un (.cell 0) (.var 0)) (.var 10)) (.kint .i64 (1))))) (.nil)), .bin (.add .i64) (.var 10) (.kint .i64 (1))])
        (
        .room [] (.bin (.cat) (.var 9) (.cons (.kint .i64 (0)) (.nil))) 8 <|
        .again 0 [.bin (.cat) (.var 9) (.cons (.kint .i64 (0)) (.nil)), .bin (.add .i64) (.var 10) (.kint .i64 (1))]))
      (
      .branch (.bin (.eq) (.un (.len) (.var 9)) (.kint .i64 (0))) (
        .ret (.kint .i64 (0)))
        (
        .call 16 35 (.cons (.var 9) (.nil)) [] <|
        .obl [] (.bin (.ne) (.kint .i64 (2)) (.kint .i64 (0))) <|
        .obl [] (.bin (.and) (.bin (.le) (.kint .i64 (0)) (.bin (.quo .i64) (.bin (.sub .i64) (.un (.len) (.var 16)) (.kint .i64 (1))) (.kint .i64 (2)))) (.bin (.lt) (.bin (.quo .i64) (.bin (.sub .i64) (.un (.len) (.var 16)) (.kint .i64 (1))) (.kint .i64 (2))) (.un (.len) (.var 16)))) <|
        .ret (.bin (.idx) (.var 16) (.bin (.quo .i64) (.bin (.sub .i64) (.un (.len) (.var 16)) (.kint .i64 (1))) (.kint .i64 (2)))))))
def vc6 : VC :=
  .call 6 16 (.cons (.un (.agg) (.cons (.un (.cell 0) (.var 0)) (.cons (.un (.cell 1) (.var 0)) (.nil)))) (.nil)) [] <|
  .call 10 16 (.cons (.un (.agg) (.cons (.un (.cell 0) (.var 1)) (.cons (.un (.cell 1) (.var 1)) (.nil)))) (.nil)) [(.un (.not) (.var 6), false)] <|
  .branch (.bin (.or) (.un (.not) (.var 6)) (.un (.not) (.var 10))) (
    .ret (.kbool false))
    (
    .loop 15 [.kint .i64 (0), .kint .i64 (0)] [.int .i64, .int .i64] (
      .branch (.bin (.lt) (.var 16) (.kint .i64 (6))) (
        .call 22 17 (.cons (.un (.agg) (.cons (.un (.cell 0) (.var 0)) (.cons (.un (.cell 1) (.var 0)) (.nil)))) (.cons (.var 16) (.nil))) [] <|
        .call 25 17 (.cons (.un (.agg) (.cons (.un (.cell 0) (.var 1)) (.cons (.un (.cell 1) (.var 1)) (.nil)))) (.cons (.var 16) (.nil))) [] <|
        .branch (.un (.not) (.bin (.beq) (.var 22) (.var 25))) (
          .again 0 [.bin (.add .i64) (.var 15) (.kint .i64 (1)), .bin (.add .i64) (.var 16) (.kint .i64 (1))])
          (
          .again 0 [.var 15, .bin (.add .i64) (.var 16) (.kint .i64 (1))]))
        (
        .ret (.bin (.le) (.var 15) (.kint .i64 (1))))))
def vc24 : VC :=
  .call 4 23 (.cons (.var 0) (.nil)) [] <|
  .room [] (.bin (.cat) (.var 4) (.cons (.var 1) (.nil))) 8 <|
  .call 10 35 (.cons (.bin (.cat) (.var 4) (.cons (.var 1) (.nil))) (.nil)) [] <|
  .ret (.var 10)
def vc8 : VC :=
  .call 6 16 (.cons (.un (.agg) (.cons (.un (.cell 0) (.var 0)) (.cons (.un (.cell 1) (.var 0)) (.nil)))) (.nil)) [] <|
  .call 18 20 (.cons (.un (.agg) (.cons (.un (.cell 0) (.var 0)) (.cons (.un (.cell 1) (.var 0)) (.nil)))) (.nil)) [(.bin (.or) (.bin (.or) (.un (.not) (.var 6)) (.bin (.lt) (.var 1) (.kint .i64 (1)))) (.bin (.gt) (.var 1) (.kint .i64 (5))), false)] <|
  .call 20 22 (.cons (.var 18) (.cons (.var 1) (.nil))) [(.bin (.or) (.bin (.or) (.un (.not) (.var 6)) (.bin (.lt) (.var 1) (.kint .i64 (1)))) (.bin (.gt) (.var 1) (.kint .i64 (5))), false)] <|
  .branch (.bin (.or) (.bin (.or) (.bin (.or) (.un (.not) (.var 6)) (.bin (.lt) (.var 1) (.kint .i64 (1)))) (.bin (.gt) (.var 1) (.kint .i64 (5)))) (.var 20)) (
    .ret (.un (.tup) (.cons (.un (.agg) (.cons (.nil) (.cons (.nil) (.nil)))) (.cons (.kint .i64 (22)) (.nil)))))
    (
    .call 24 23 (.cons (.un (.cell 0) (.var 0)) (.nil)) [] <|
    .call 28 24 (.cons (.un (.cell 1) (.var 0)) (.cons (.var 1) (.nil))) [] <|
    .ret (.un (.tup) (.cons (.un (.agg) (.cons (.var 24) (.cons (.var 28) (.nil)))) (.cons (.kint .i64 (0)) (.nil)))))
def vc19 : VC :=
  .loop 4 [.kbool false, .kint .i64 (0)] [.bool, .int .i64] (
    .branch (.bin (.lt) (.var 5) (.un (.len) (.var 0))) (
      .obl [] (.bin (.and) (.bin (.le) (.kint .i64 (0)) (.var 5)) (.bin (.lt) (.var 5) (.un (.len) (.var 0)))) <|
      .branch (.bin (.eq) (.bin (.idx) (.var 0) (.var 5)) (.var 1)) (
        .ret (.kbool true))
        (
        .again 0 [.var 4, .bin (.add .i64) (.var 5) (.kint .i64 (1))]))
      (
      .ret (.kbool false)))
def vc37 : VC :=
  .loop 3 [.kbool false, .kint .i64 (0)] [.bool, .int .i64] (
    .branch (.bin (.lt) (.var 4) (.un (.len) (.var 0))) (
      .obl [] (.bin (.and) (.bin (.le) (.kint .i64 (0)) (.var 4)) (.bin (.lt) (.var 4) (.un (.len) (.var 0)))) <|
      .obl [(.bin (.lt) (.bin (.idx) (.var 0) (.var 4)) (.kint .i64 (1)), false)] (.bin (.and) (.bin (.le) (.kint .i64 (0)) (.var 4)) (.bin (.lt) (.var 4) (.un (.len) (.var 0)))) <|
      .obl [(.bin (.gt) (.var 4) (.kint .i64 (0)), true), (.bin (.or) (.bin (.lt) (.bin (.idx) (.var 0) (.var 4)) (.kint .i64 (1))) (.bin (.gt) (.bin (.idx) (.var 0) (.var 4)) (.kint .i64 (5))), false)] (.bin (.and) (.bin (.le) (.kint .i64 (0)) (.var 4)) (.bin (.lt) (.var 4) (.un (.len) (.var 0)))) <|
      .obl [(.bin (.gt) (.var 4) (.kint .i64 (0)), true), (.bin (.or) (.bin (.lt) (.bin (.idx) (.var 0) (.var 4)) (.kint .i64 (1))) (.bin (.gt) (.bin (.idx) (.var 0) (.var 4)) (.kint .i64 (5))), false)] (.bin (.and) (.bin (.le) (.kint .i64 (0)) (.bin (.sub .i64) (.var 4) (.kint .i64 (1)))) (.bin (.lt) (.bin (.sub .i64) (.var 4) (.kint .i64 (1))) (.un (.len) (.var 0)))) <|
      .branch (.bin (.or) (.bin (.or) (.bin (.lt) (.bin (.idx) (.var 0) (.var 4)) (.kint .i64 (1))) (.bin (.gt) (.bin (.idx) (.var 0) (.var 4)) (.kint .i64 (5)))) (.bin (.and) (.bin (.gt) (.var 4) (.kint .i64 (0))) (.bin (.le) (.bin (.idx) (.var 0) (.var 4)) (.bin (.idx) (.var 0) (.bin (.sub .i64) (.var 4) (.kint .i64 (1))))))) (
        .ret (.kbool false))
        (
        .again 0 [.var 3, .bin (.add .i64) (.var 4) (.kint .i64 (1))]))
      (
      .ret (.kbool true)))
def vc21 : VC :=
  .call 5 37 (.cons (.un (.cell 0) (.var 0)) (.nil)) [] <|
  .call 9 37 (.cons (.un (.cell 1) (.var 0)) (.nil)) [] <|
  .branch (.bin (.or) (.bin (.or) (.un (.not) (.var 5)) (.un (.not) (.var 9))) (.bin (.lt) (.un (.len) (.un (.cell 0) (.var 0))) (.kint .i64 (1)))) (
    .ret (.kbool false))
    (
    .loop 24 [.kbool false, .kint .i64 (1)] [.bool, .int .i64] (
      .branch (.bin (.le) (.var 25) (.kint .i64 (5))) (
        .call 31 19 (.cons (.un (.cell 0) (.var 0)) (.cons (.var 25) (.nil))) [] <|
        .call 36 19 (.cons (.un (.cell 1) (.var 0)) (.cons (.var 25) (.nil))) [] <|
        .branch (.bin (.and) (.var 31) (.var 36)) (
          .ret (.kbool false))
          (
          .again 0 [.var 24, .bin (.add .i64) (.var 25) (.kint .i64 (1))]))
        (
        .ret (.kbool true))))
def vc28 : VC :=
  .branch (.bin (.ne) (.un (.len) (.var 0)) (.un (.len) (.var 1))) (
    .ret (.kbool false))
    (
    .loop 9 [.kbool false, .kint .i64 (0)] [.bool, .int .i64] (
      .branch (.bin (.lt) (.var 10) (.un (.len) (.var 0))) (
        .obl [] (.bin (.and) (.bin (.le) (.kint .i64 (0)) (.var 10)) (.bin (.lt) (.var 10) (.un (.len) (.var 0)))) <|
        .obl [] (.bin (.and) (.bin (.le) (.kint .i64 (0)) (.var 10)) (.bin (.lt) (.var 10) (.un (.len) (.var 1)))) <|
        .branch (.bin (.ne) (.bin (.idx) (.var 0) (.var 10)) (.bin (.idx) (.var 1) (.var 10))) (
          .ret (.kbool false))
          (
          .again 0 [.var 9, .bin (.add .i64) (.var 10) (.kint .i64 (1))]))
        (
        .ret (.kbool true))))
def vc10 : VC :=
  .call 9 28 (.cons (.un (.cell 0) (.var 0)) (.cons (.un (.cell 0) (.var 1)) (.nil))) [] <|
  .call 15 28 (.cons (.un (.cell 1) (.var 0)) (.cons (.un (.cell 1) (.var 1)) (.nil))) [] <|
  .ret (.bin (.and) (.var 9) (.var 15))
def vc27 : VC :=
  .loop 4 [.kint .i64 (0)] [.int .i64] (
    .obl [(.bin (.lt) (.var 4) (.un (.len) (.var 0)), true)] (.bin (.and) (.bin (.le) (.kint .i64 (0)) (.var 4)) (.bin (.lt) (.var 4) (.un (.len) (.var 0)))) <|
    .branch (.bin (.and) (.bin (.lt) (.var 4) (.un (.len) (.var 0))) (.bin (.lt) (.bin (.idx) (.var 0) (.var 4)) (.var 1))) (
      .again 0 [.bin (.add .i64) (.var 4) (.kint .i64 (1))])
      (
      .obl [(.bin (.lt) (.var 4) (.un (.len) (.var 0)), true)] (.bin (.and) (.bin (.le) (.kint .i64 (0)) (.var 4)) (.bin (.lt) (.var 4) (.un (.len) (.var 0)))) <|
      .branch (.bin (.and) (.bin (.lt) (.var 4) (.un (.len) (.var 0))) (.bin (.eq) (.bin (.idx) (.var 0) (.var 4)) (.var 1))) (
        .ret (.var 0))
        (
        .obl [] (.bin (.and) (.bin (.le) (.kint .i64 (0)) (.kint .i64 (0))) (.bin (.and) (.bin (.le) (.kint .i64 (0)) (.var 4)) (.bin (.le) (.var 4) (.un (.len) (.var 0))))) <|
        .room [] (.bin (.cat) (.nil) (.bin (.drop) (.bin (.take) (.var 0) (.var 4)) (.kint .i64 (0)))) 8 <|
        .room [] (.bin (.cat) (.bin (.cat) (.nil) (.bin (.drop) (.bin (.take) (.var 0) (.var 4)) (.kint .i64 (0)))) (.cons (.var 1) (.nil))) 8 <|
        .obl [] (.bin (.and) (.bin (.le) (.kint .i64 (0)) (.var 4)) (.bin (.and) (.bin (.le) (.var 4) (.un (.len) (.var 0))) (.bin (.le) (.un (.len) (.var 0)) (.un (.len) (.var 0))))) <|
        .room [] (.bin (.cat) (.bin (.cat) (.bin (.cat) (.nil) (.bin (.drop) (.bin (.take) (.var 0) (.var 4)) (.kint .i64 (0)))) (.cons (.var 1) (.nil))) (.bin (.drop) (.bin (.take) (.var 0) (.un (.len) (.var 0))) (.var 4))) 8 <|
        .ret (.bin (.cat) (.bin (.cat) (.bin (.cat) (.nil) (.bin (.drop) (.bin (.take) (.var 0) (.var 4)) (.kint .i64 (0)))) (.cons (.var 1) (.nil))) (.bin (.drop) (.bin (.take) (.var 0) (.un (.len) (.var 0))) (.var 4))))))
def vc25 : VC :=
  .loop 5 [.nil, .kint .i64 (0)] [.list (.int .i64), .int .i64] (
    .branch (.bin (.lt) (.var 6) (.un (.len) (.un (.cell 0) (.var 0)))) (
      .obl [] (.bin (.and) (.bin (.le) (.kint .i64 (0)) (.var 6)) (.bin (.lt) (.var 6) (.un (.len) (.un (.cell 0) (.var 0))))) <|
      .call 18 27 (.cons (.var 5) (.cons (.bin (.idx) (.un (.cell 0) (.var 0)) (.var 6)) (.nil))) [] <|
      .again 0 [.var 18, .bin (.add .i64) (.var 6) (.kint .i64 (1))])
      (
      .loop 13 [.var 5, .kint .i64 (0)] [.list (.int .i64), .int .i64] (
        .branch (.bin (.lt) (.var 14) (.un (.len) (.un (.cell 1) (.var 0)))) (
          .obl [] (.bin (.and) (.bin (.le) (.kint .i64 (0)) (.var 14)) (.bin (.lt) (.var 14) (.un (.len) (.un (.cell 1) (.var 0))))) <|
          .call 26 27 (.cons (.var 13) (.cons (.bin (.idx) (.un (.cell 1) (.var 0)) (.var 14)) (.nil))) [] <|
          .again 0 [.var 26, .bin (.add .i64) (.var 14) (.kint .i64 (1))])
          (
          .ret (.var 13)))))
def vc15 : VC :=
  .call 6 8 (.cons (.un (.agg) (.cons (.cons (.kint .i64 (1)) (.cons (.kint .i64 (2)) (.cons (.kint .i64 (3)) (.nil)))) (.cons (.nil) (.nil)))) (.cons (.kint .i64 (4)) (.nil))) [] <|
  .call 14 16 (.cons (.un (.agg) (.cons (.cons (.kint .i64 (1)) (.cons (.kint .i64 (2)) (.cons (.kint .i64 (3)) (.nil)))) (.cons (.nil) (.nil)))) (.nil)) [] <|
  .call 18 31 (.cons (.un (.agg) (.cons (.cons (.kint .i64 (1)) (.cons (.kint .i64 (2)) (.cons (.kint .i64 (3)) (.nil)))) (.cons (.nil) (.nil)))) (.cons (.cons (.kint .i64 (1)) (.cons (.kint .i64 (3)) (.nil))) (.nil))) [(.var 14, true)] <|
  .call 23 31 (.cons (.un (.agg) (.cons (.cons (.kint .i64 (1)) (.cons (.kint .i64 (2)) (.cons (.kint .i64 (3)) (.nil)))) (.cons (.nil) (.nil)))) (.cons (.cons (.kint .i64 (1)) (.cons (.kint .i64 (4)) (.nil))) (.nil))) [(.bin (.and) (.var 14) (.var 18), true)] <|
  .call 39 32 (.cons (.un (.agg) (.cons (.cons (.kint .i64 (1)) (.cons (.kint .i64 (2)) (.cons (.kint .i64 (3)) (.nil)))) (.cons (.nil) (.nil)))) (.cons (.cons (.kint .i64 (5)) (.cons (.kint .i64 (3)) (.cons (.kint .i64 (9)) (.nil)))) (.nil))) [(.bin (.and) (.bin (.and) (.bin (.and) (.bin (.and) (.var 14) (.var 18)) (.un (.not) (.var 23))) (.bin (.eq) (.un (.cell 1) (.var 6)) (.kint .i64 (0)))) (.bin (.eq) (.un (.len) (.un (.cell 1) (.un (.cell 0) (.var 6)))) (.kint .i64 (1))), true)] <|
  .ret (.bin (.and) (.bin (.and) (.bin (.and) (.bin (.and) (.bin (.and) (.var 14) (.var 18)) (.un (.not) (.var 23))) (.bin (.eq) (.un (.cell 1) (.var 6)) (.kint .i64 (0)))) (.bin (.eq) (.un (.len) (.un (.cell 1) (.un (.cell 0) (.var 6)))) (.kint .i64 (1)))) (.bin (.eq) (.var 39) (.kint .i64 (5))))
def vc29 : VC :=
  .loop 7 [.nil, .kint .i64 (0)] [.list (.int .i64), .int .i64] (
    .branch (.bin (.lt) (.var 8) (.un (.len) (.var 0))) (
      .obl [] (.bin (.and) (.bin (.le) (.kint .i64 (0)) (.var 8)) (.bin (.lt) (.var 8) (.un (.len) (.var 0)))) <|
      .branch (.bin (.ne) (.bin (.idx) (.var 0) (.var 8)) (.var 1)) (
        .obl [] (.bin (.and) (.bin (.le) (.kint .i64 (0)) (.var 8)) (.bin (.lt) (.var 8) (.un (.len) (.var 0)))) <|
        .room [] (.bin (.cat) (.var 7) (.cons (.bin (.idx) (.var 0) (.var 8)) (.nil))) 8 <|
        .again 0 [.bin (.cat) (.var 7) (.cons (.bin (.idx) (.var 0) (.var 8)) (.nil)), .bin (.add .i64) (.var 8) (.kint .i64 (1))])
        (
        .again 0 [.var 7, .bin (.add .i64) (.var 8) (.kint .i64 (1))]))
      (
      .ret (.var 7)))
def vc11 : VC :=
  .call 6 16 (.cons (.un (.agg) (.cons (.un (.cell 0) (.var 0)) (.cons (.un (.cell 1) (.var 0)) (.nil)))) (.nil)) [] <|
  .call 12 22 (.cons (.un (.cell 1) (.var 0)) (.cons (.var 1) (.nil))) [(.un (.not) (.var 6), false)] <|
  .branch (.bin (.or) (.un (.not) (.var 6)) (.un (.not) (.var 12))) (
    .ret (.un (.tup) (.cons (.un (.agg) (.cons (.nil) (.cons (.nil) (.nil)))) (.cons (.kint .i64 (22)) (.nil)))))
    (
    .call 18 24 (.cons (.un (.cell 0) (.var 0)) (.cons (.var 1) (.nil))) [] <|
    .call 22 29 (.cons (.un (.cell 1) (.var 0)) (.cons (.var 1) (.nil))) [] <|
    .ret (.un (.tup) (.cons (.un (.agg) (.cons (.var 18) (.cons (.var 22) (.nil)))) (.cons (.kint .i64 (0)) (.nil)))))
def vc13 : VC :=
  .call 8 29 (.cons (.un (.cell 0) (.var 0)) (.cons (.var 1) (.nil))) [] <|
  .call 12 29 (.cons (.un (.cell 1) (.var 0)) (.cons (.var 1) (.nil))) [] <|
  .call 17 16 (.cons (.un (.agg) (.cons (.un (.cell 0) (.var 0)) (.cons (.un (.cell 1) (.var 0)) (.nil)))) (.nil)) [] <|
  .call 21 20 (.cons (.un (.agg) (.cons (.un (.cell 0) (.var 0)) (.cons (.un (.cell 1) (.var 0)) (.nil)))) (.nil)) [(.un (.not) (.var 17), false)] <|
  .call 23 22 (.cons (.var 21) (.cons (.var 1) (.nil))) [(.un (.not) (.var 17), false)] <|
  .branch (.bin (.or) (.bin (.or) (.un (.not) (.var 17)) (.un (.not) (.var 23))) (.bin (.eq) (.un (.len) (.var 8)) (.kint .i64 (0)))) (
    .ret (.un (.tup) (.cons (.un (.agg) (.cons (.nil) (.cons (.nil) (.nil)))) (.cons (.kint .i64 (22)) (.nil)))))
    (
    .ret (.un (.tup) (.cons (.un (.agg) (.cons (.var 8) (.cons (.var 12) (.nil)))) (.cons (.kint .i64 (0)) (.nil)))))
def vc7 : VC :=
  .call 6 21 (.cons (.un (.agg) (.cons (.un (.cell 0) (.var 0)) (.cons (.un (.cell 1) (.var 0)) (.nil)))) (.nil)) [] <|
  .call 9 21 (.cons (.un (.agg) (.cons (.un (.cell 0) (.var 1)) (.cons (.un (.cell 1) (.var 1)) (.nil)))) (.nil)) [] <|
  .branch (.bin (.or) (.un (.not) (.var 6)) (.un (.not) (.var 9))) (
    .ret (.kbool false))
    (
    .loop 19 [.kint .i64 (0), .kint .i64 (1)] [.int .i64, .int .i64] (
      .branch (.bin (.le) (.var 20) (.kint .i64 (5))) (
        .call 26 19 (.cons (.un (.cell 0) (.var 0)) (.cons (.var 20) (.nil))) [] <|
        .call 30 19 (.cons (.un (.cell 0) (.var 1)) (.cons (.var 20) (.nil))) [] <|
        .branch (.un (.not) (.bin (.beq) (.var 26) (.var 30))) (
          .again 0 [.bin (.add .i64) (.var 19) (.kint .i64 (1)), .bin (.add .i64) (.var 20) (.kint .i64 (1))])
          (
          .again 0 [.var 19, .bin (.add .i64) (.var 20) (.kint .i64 (1))]))
        (
        .ret (.bin (.lt) (.var 19) (.kint .i64 (2))))))
def vc26 : VC :=
  .room [] (.bin (.cat) (.nil) (.var 0)) 8 <|
  .ret (.bin (.cat) (.nil) (.var 0))
def vc30 : VC :=
  .loop 5 [.nil, .kint .i64 (0)] [.list (.int .i64), .int .i64] (
    .branch (.bin (.lt) (.var 6) (.un (.len) (.var 0))) (
      .obl [] (.bin (.and) (.bin (.le) (.kint .i64 (0)) (.var 6)) (.bin (.lt) (.var 6) (.un (.len) (.var 0)))) <|
      .branch (.bin (.ne) (.bin (.idx) (.var 0) (.var 6)) (.var 1)) (
        .obl [] (.bin (.and) (.bin (.le) (.kint .i64 (0)) (.var 6)) (.bin (.lt) (.var 6) (.un (.len) (.var 0)))) <|
        .room [] (.bin (.cat) (.var 5) (.cons (.bin (.idx) (.var 0) (.var 6)) (.nil))) 8 <|
        .again 0 [.bin (.cat) (.var 5) (.cons (.bin (.idx) (.var 0) (.var 6)) (.nil)), .bin (.add .i64) (.var 6) (.kint .i64 (1))])
        (
        .again 0 [.var 5, .bin (.add .i64) (.var 6) (.kint .i64 (1))]))
      (
      .ret (.var 5)))
def vc9 : VC :=
  .call 6 21 (.cons (.un (.agg) (.cons (.un (.cell 0) (.var 0)) (.cons (.un (.cell 1) (.var 0)) (.nil)))) (.nil)) [] <|
  .call 9 25 (.cons (.un (.agg) (.cons (.un (.cell 0) (.var 0)) (.cons (.un (.cell 1) (.var 0)) (.nil)))) (.nil)) [] <|
  .call 11 19 (.cons (.var 9) (.cons (.var 1) (.nil))) [] <|
  .branch (.bin (.or) (.bin (.or) (.bin (.or) (.un (.not) (.var 6)) (.bin (.lt) (.var 1) (.kint .i64 (1)))) (.bin (.gt) (.var 1) (.kint .i64 (5)))) (.var 11)) (
    .ret (.un (.tup) (.cons (.un (.agg) (.cons (.nil) (.cons (.nil) (.nil)))) (.cons (.kint .i64 (22)) (.nil)))))
    (
    .call 28 26 (.cons (.un (.cell 0) (.var 0)) (.nil)) [] <|
    .call 31 26 (.cons (.un (.cell 1) (.var 0)) (.nil)) [] <|
    .call 33 27 (.cons (.var 31) (.cons (.var 1) (.nil))) [] <|
    .ret (.un (.tup) (.cons (.un (.agg) (.cons (.var 28) (.cons (.var 33) (.nil)))) (.cons (.kint .i64 (0)) (.nil)))))
def vc12 : VC :=
  .call 6 21 (.cons (.un (.agg) (.cons (.un (.cell 0) (.var 0)) (.cons (.un (.cell 1) (.var 0)) (.nil)))) (.nil)) [] <|
  .call 11 19 (.cons (.un (.cell 1) (.var 0)) (.cons (.var 1) (.nil))) [] <|
  .branch (.bin (.or) (.un (.not) (.var 6)) (.un (.not) (.var 11))) (
    .ret (.un (.tup) (.cons (.un (.agg) (.cons (.nil) (.cons (.nil) (.nil)))) (.cons (.kint .i64 (22)) (.nil)))))
    (
    .call 21 26 (.cons (.un (.cell 0) (.var 0)) (.nil)) [] <|
    .call 23 27 (.cons (.var 21) (.cons (.var 1) (.nil))) [] <|
    .call 27 30 (.cons (.un (.cell 1) (.var 0)) (.cons (.var 1) (.nil))) [] <|
    .ret (.un (.tup) (.cons (.un (.agg) (.cons (.var 23) (.cons (.var 27) (.nil)))) (.cons (.kint .i64 (0)) (.nil)))))
def vc14 : VC :=
  .call 6 21 (.cons (.un (.agg) (.cons (.un (.cell 0) (.var 0)) (.cons (.un (.cell 1) (.var 0)) (.nil)))) (.nil)) [] <|
  .call 9 25 (.cons (.un (.agg) (.cons (.un (.cell 0) (.var 0)) (.cons (.un (.cell 1) (.var 0)) (.nil)))) (.nil)) [] <|
  .call 11 19 (.cons (.var 9) (.cons (.var 1) (.nil))) [] <|
  .branch (.bin (.or) (.un (.not) (.var 6)) (.un (.not) (.var 11))) (
    .ret (.un (.tup) (.cons (.un (.agg) (.cons (.nil) (.cons (.nil) (.nil)))) (.cons (.kint .i64 (22)) (.nil)))))
    (
    .call 22 30 (.cons (.un (.cell 0) (.var 0)) (.cons (.var 1) (.nil))) [] <|
    .call 26 30 (.cons (.un (.cell 1) (.var 0)) (.cons (.var 1) (.nil))) [] <|
    .branch (.bin (.eq) (.un (.len) (.var 22)) (.kint .i64 (0))) (
      .ret (.un (.tup) (.cons (.un (.agg) (.cons (.nil) (.cons (.nil) (.nil)))) (.cons (.kint .i64 (22)) (.nil)))))
      (
      .ret (.un (.tup) (.cons (.un (.agg) (.cons (.var 22) (.cons (.var 26) (.nil)))) (.cons (.kint .i64 (0)) (.nil))))))
def vc3 : VC :=
  .call 8 6 (.cons (.un (.agg) (.cons (.un (.cell 0) (.var 0)) (.cons (.un (.cell 1) (.var 0)) (.nil)))) (.cons (.un (.agg) (.cons (.un (.cell 0) (.var 1)) (.cons (.un (.cell 1) (.var 1)) (.nil)))) (.nil))) [] <|
  .call 11 7 (.cons (.un (.agg) (.cons (.un (.cell 0) (.var 0)) (.cons (.un (.cell 1) (.var 0)) (.nil)))) (.cons (.un (.agg) (.cons (.un (.cell 0) (.var 1)) (.cons (.un (.cell 1) (.var 1)) (.nil)))) (.nil))) [] <|
  .branch (.un (.not) (.bin (.beq) (.var 8) (.var 11))) (
    .ret (.kbool false))
    (
    .call 15 8 (.cons (.un (.agg) (.cons (.un (.cell 0) (.var 0)) (.cons (.un (.cell 1) (.var 0)) (.nil)))) (.cons (.var 2) (.nil))) [] <|
    .call 24 9 (.cons (.un (.agg) (.cons (.un (.cell 0) (.var 0)) (.cons (.un (.cell 1) (.var 0)) (.nil)))) (.cons (.var 2) (.nil))) [] <|
    .call 33 10 (.cons (.un (.agg) (.cons (.un (.cell 0) (.un (.cell 0) (.var 15))) (.cons (.un (.cell 1) (.un (.cell 0) (.var 15))) (.nil)))) (.cons (.un (.agg) (.cons (.un (.cell 0) (.un (.cell 0) (.var 24))) (.cons (.un (.cell 1) (.un (.cell 0) (.var 24))) (.nil)))) (.nil))) [] <|
    .branch (.bin (.or) (.un (.not) (.var 33)) (.bin (.ne) (.un (.cell 1) (.var 15)) (.un (.cell 1) (.var 24)))) (
      .ret (.kbool false))
      (
      .call 44 11 (.cons (.un (.agg) (.cons (.un (.cell 0) (.var 0)) (.cons (.un (.cell 1) (.var 0)) (.nil)))) (.cons (.var 2) (.nil))) [] <|
      .call 52 12 (.cons (.un (.agg) (.cons (.un (.cell 0) (.var 0)) (.cons (.un (.cell 1) (.var 0)) (.nil)))) (.cons (.var 2) (.nil))) [] <|
      .call 60 10 (.cons (.un (.agg) (.cons (.un (.cell 0) (.un (.cell 0) (.var 44))) (.cons (.un (.cell 1) (.un (.cell 0) (.var 44))) (.nil)))) (.cons (.un (.agg) (.cons (.un (.cell 0) (.un (.cell 0) (.var 52))) (.cons (.un (.cell 1) (.un (.cell 0) (.var 52))) (.nil)))) (.nil))) [] <|
      .branch (.bin (.or) (.un (.not) (.var 60)) (.bin (.ne) (.un (.cell 1) (.var 44)) (.un (.cell 1) (.var 52)))) (
        .ret (.kbool false))
        (
        .call 71 13 (.cons (.un (.agg) (.cons (.un (.cell 0) (.var 0)) (.cons (.un (.cell 1) (.var 0)) (.nil)))) (.cons (.var 2) (.nil))) [] <|
        .call 79 14 (.cons (.un (.agg) (.cons (.un (.cell 0) (.var 0)) (.cons (.un (.cell 1) (.var 0)) (.nil)))) (.cons (.var 2) (.nil))) [] <|
        .call 87 10 (.cons (.un (.agg) (.cons (.un (.cell 0) (.un (.cell 0) (.var 71))) (.cons (.un (.cell 1) (.un (.cell 0) (.var 71))) (.nil)))) (.cons (.un (.agg) (.cons (.un (.cell 0) (.un (.cell 0) (.var 79))) (.cons (.un (.cell 1) (.un (.cell 0) (.var 79))) (.nil)))) (.nil))) [] <|
        .call 96 15 (.nil) [(.bin (.and) (.var 87) (.bin (.eq) (.un (.cell 1) (.var 71)) (.un (.cell 1) (.var 79))), true)] <|
        .ret (.bin (.and) (.bin (.and) (.var 87) (.bin (.eq) (.un (.cell 1) (.var 71)) (.un (.cell 1) (.var 79)))) (.var 96)))))
def vc4 : VC :=
  .call 5 16 (.cons (.un (.agg) (.cons (.un (.cell 0) (.var 0)) (.cons (.un (.cell 1) (.var 0)) (.nil)))) (.nil)) [] <|
  .branch (.un (.not) (.var 5)) (
    .call 7 15 (.nil) [] <|
    .ret (.var 7))
    (
    .branch (.bin (.lt) (.var 1) (.kint .i64 (0))) (
      .obl [] (.bin (.ne) (.kint .i64 (5)) (.kint .i64 (0))) <|
      .loop 18 [.kbool false, .kint .i64 (1), .un (.cell 0) (.var 0), .un (.cell 1) (.var 0)] [.bool, .int .i64, .list (.int .i64), .list (.int .i64)] (
        .branch (.bin (.le) (.var 19) (.kint .i64 (5))) (
          .call 26 8 (.cons (.un (.agg) (.cons (.var 20) (.cons (.var 21) (.nil)))) (.cons (.var 19) (.nil))) [] <|
          .branch (.bin (.eq) (.un (.cell 1) (.var 26)) (.kint .i64 (0))) (
            .call 39 11 (.cons (.un (.agg) (.cons (.un (.cell 0) (.un (.cell 0) (.var 26))) (.cons (.un (.cell 1) (.un (.cell 0) (.var 26))) (.nil)))) (.cons (.var 19) (.nil))) [] <|
            .branch (.bin (.eq) (.un (.cell 1) (.var 39)) (.kint .i64 (0))) (
              .call 49 6 (.cons (.un (.agg) (.cons (.un (.cell 0) (.un (.cell 0) (.var 26))) (.cons (.un (.cell 1) (.un (.cell 0) (.var 26))) (.nil)))) (.cons (.un (.agg) (.cons (.un (.cell 0) (.un (.cell 0) (.var 39))) (.cons (.un (.cell 1) (.un (.cell 0) (.var 39))) (.nil)))) (.nil))) [] <|
              .branch (.un (.not) (.var 49)) (
                .ret (.kbool false))
                (
                .call 55 17 (.cons (.un (.agg) (.cons (.un (.cell 0) (.un (.cell 0) (.var 39))) (.cons (.un (.cell 1) (.un (.cell 0) (.var 39))) (.nil)))) (.cons (.var 19) (.nil))) [] <|
                .branch (.un (.not) (.var 55)) (
                  .ret (.kbool false))
                  (
                  .again 0 [.var 18, .bin (.add .i64) (.var 19) (.kint .i64 (1)), .un (.cell 0) (.un (.cell 0) (.var 39)), .un (.cell 1) (.un (.cell 0) (.var 39))])))
              (
              .call 49 17 (.cons (.un (.agg) (.cons (.un (.cell 0) (.un (.cell 0) (.var 26))) (.cons (.un (.cell 1) (.un (.cell 0) (.var 26))) (.nil)))) (.cons (.var 19) (.nil))) [] <|
              .branch (.un (.not) (.var 49)) (
                .ret (.kbool false))
                (
                .again 0 [.var 18, .bin (.add .i64) (.var 19) (.kint .i64 (1)), .un (.cell 0) (.un (.cell 0) (.var 26)), .un (.cell 1) (.un (.cell 0) (.var 26))])))
            (
            .call 37 11 (.cons (.un (.agg) (.cons (.var 20) (.cons (.var 21) (.nil)))) (.cons (.var 19) (.nil))) [] <|
            .branch (.bin (.eq) (.un (.cell 1) (.var 37)) (.kint .i64 (0))) (
              .call 47 6 (.cons (.un (.agg) (.cons (.var 20) (.cons (.var 21) (.nil)))) (.cons (.un (.agg) (.cons (.un (.cell 0) (.un (.cell 0) (.var 37))) (.cons (.un (.cell 1) (.un (.cell 0) (.var 37))) (.nil)))) (.nil))) [] <|
              .branch (.un (.not) (.var 47)) (
                .ret (.kbool false))
                (
                .call 53 17 (.cons (.un (.agg) (.cons (.un (.cell 0) (.un (.cell 0) (.var 37))) (.cons (.un (.cell 1) (.un (.cell 0) (.var 37))) (.nil)))) (.cons (.var 19) (.nil))) [] <|
                .branch (.un (.not) (.var 53)) (
                  .ret (.kbool false))
                  (
                  .again 0 [.var 18, .bin (.add .i64) (.var 19) (.kint .i64 (1)), .un (.cell 0) (.un (.cell 0) (.var 37)), .un (.cell 1) (.un (.cell 0) (.var 37))])))
              (
              .call 47 17 (.cons (.un (.agg) (.cons (.var 20) (.cons (.var 21) (.nil)))) (.cons (.var 19) (.nil))) [] <|
              .branch (.un (.not) (.var 47)) (
                .ret (.kbool false))
                (
                .again 0 [.var 18, .bin (.add .i64) (.var 19) (.kint .i64 (1)), .var 20, .var 21]))))
          (
          .loop 25 [.var 18, .kint .i64 (1), .var 20, .var 21] [.bool, .int .i64, .list (.int .i64), .list (.int .i64)] (
            .branch (.bin (.le) (.var 26) (.kint .i64 (5))) (
              .branch (.bin (.eq) (.var 26) (.bin (.add .i64) (.kint .i64 (1)) (.bin (.rem .i64) (.un (.neg .i64) (.bin (.add .i64) (.var 1) (.kint .i64 (1)))) (.kint .i64 (5))))) (
                .again 0 [.var 25, .bin (.add .i64) (.var 26) (.kint .i64 (1)), .var 27, .var 28])
                (
                .call 36 13 (.cons (.un (.agg) (.cons (.var 27) (.cons (.var 28) (.nil)))) (.cons (.var 26) (.nil))) [] <|
                .call 48 6 (.cons (.un (.agg) (.cons (.var 27) (.cons (.var 28) (.nil)))) (.cons (.un (.agg) (.cons (.un (.cell 0) (.un (.cell 0) (.var 36))) (.cons (.un (.cell 1) (.un (.cell 0) (.var 36))) (.nil)))) (.nil))) [(.bin (.ne) (.un (.cell 1) (.var 36)) (.kint .i64 (0)), false)] <|
                .call 53 16 (.cons (.un (.agg) (.cons (.un (.cell 0) (.un (.cell 0) (.var 36))) (.cons (.un (.cell 1) (.un (.cell 0) (.var 36))) (.nil)))) (.nil)) [(.bin (.or) (.bin (.ne) (.un (.cell 1) (.var 36)) (.kint .i64 (0))) (.un (.not) (.var 48)), false)] <|
                .branch (.bin (.or) (.bin (.or) (.bin (.ne) (.un (.cell 1) (.var 36)) (.kint .i64 (0))) (.un (.not) (.var 48))) (.un (.not) (.var 53))) (
                  .ret (.kbool false))
                  (
                  .again 0 [.var 25, .bin (.add .i64) (.var 26) (.kint .i64 (1)), .un (.cell 0) (.un (.cell 0) (.var 36)), .un (.cell 1) (.un (.cell 0) (.var 36))])))
              (
              .call 33 13 (.cons (.un (.agg) (.cons (.var 27) (.cons (.var 28) (.nil)))) (.cons (.bin (.add .i64) (.kint .i64 (1)) (.bin (.rem .i64) (.un (.neg .i64) (.bin (.add .i64) (.var 1) (.kint .i64 (1)))) (.kint .i64 (5)))) (.nil))) [] <|
              .obl [(.bin (.and) (.bin (.eq) (.un (.cell 1) (.var 33)) (.kint .i64 (22))) (.bin (.eq) (.un (.len) (.var 27)) (.kint .i64 (1))), true)] (.bin (.and) (.bin (.le) (.kint .i64 (0)) (.kint .i64 (0))) (.bin (.lt) (.kint .i64 (0)) (.un (.len) (.var 27)))) <|
              .call 57 15 (.nil) [(.bin (.and) (.bin (.and) (.bin (.eq) (.un (.cell 1) (.var 33)) (.kint .i64 (22))) (.bin (.eq) (.un (.len) (.var 27)) (.kint .i64 (1)))) (.bin (.eq) (.bin (.idx) (.var 27) (.kint .i64 (0))) (.bin (.add .i64) (.kint .i64 (1)) (.bin (.rem .i64) (.un (.neg .i64) (.bin (.add .i64) (.var 1) (.kint .i64 (1)))) (.kint .i64 (5))))), true)] <|
              .ret (.bin (.and) (.bin (.and) (.bin (.and) (.bin (.eq) (.un (.cell 1) (.var 33)) (.kint .i64 (22))) (.bin (.eq) (.un (.len) (.var 27)) (.kint .i64 (1)))) (.bin (.eq) (.bin (.idx) (.var 27) (.kint .i64 (0))) (.bin (.add .i64) (.kint .i64 (1)) (.bin (.rem .i64) (.un (.neg .i64) (.bin (.add .i64) (.var 1) (.kint .i64 (1)))) (.kint .i64 (5)))))) (.var 57)))))))
      (
      .obl [] (.bin (.ne) (.kint .i64 (5)) (.kint .i64 (0))) <|
      .loop 14 [.kbool false, .kint .i64 (1), .un (.cell 0) (.var 0), .un (.cell 1) (.var 0)] [.bool, .int .i64, .list (.int .i64), .list (.int .i64)] (
        .branch (.bin (.le) (.var 15) (.kint .i64 (5))) (
          .call 22 8 (.cons (.un (.agg) (.cons (.var 16) (.cons (.var 17) (.nil)))) (.cons (.var 15) (.nil))) [] <|
          .branch (.bin (.eq) (.un (.cell 1) (.var 22)) (.kint .i64 (0))) (
            .call 35 11 (.cons (.un (.agg) (.cons (.un (.cell 0) (.un (.cell 0) (.var 22))) (.cons (.un (.cell 1) (.un (.cell 0) (.var 22))) (.nil)))) (.cons (.var 15) (.nil))) [] <|
            .branch (.bin (.eq) (.un (.cell 1) (.var 35)) (.kint .i64 (0))) (
              .call 45 6 (.cons (.un (.agg) (.cons (.un (.cell 0) (.un (.cell 0) (.var 22))) (.cons (.un (.cell 1) (.un (.cell 0) (.var 22))) (.nil)))) (.cons (.un (.agg) (.cons (.un (.cell 0) (.un (.cell 0) (.var 35))) (.cons (.un (.cell 1) (.un (.cell 0) (.var 35))) (.nil)))) (.nil))) [] <|
              .branch (.un (.not) (.var 45)) (
                .ret (.kbool false))
                (
                .call 51 17 (.cons (.un (.agg) (.cons (.un (.cell 0) (.un (.cell 0) (.var 35))) (.cons (.un (.cell 1) (.un (.cell 0) (.var 35))) (.nil)))) (.cons (.var 15) (.nil))) [] <|
                .branch (.un (.not) (.var 51)) (
                  .ret (.kbool false))
                  (
                  .again 0 [.var 14, .bin (.add .i64) (.var 15) (.kint .i64 (1)), .un (.cell 0) (.un (.cell 0) (.var 35)), .un (.cell 1) (.un (.cell 0) (.var 35))])))
              (
              .call 45 17 (.cons (.un (.agg) (.cons (.un (.cell 0) (.un (.cell 0) (.var 22))) (.cons (.un (.cell 1) (.un (.cell 0) (.var 22))) (.nil)))) (.cons (.var 15) (.nil))) [] <|
              .branch (.un (.not) (.var 45)) (
                .ret (.kbool false))
                (
                .again 0 [.var 14, .bin (.add .i64) (.var 15) (.kint .i64 (1)), .un (.cell 0) (.un (.cell 0) (.var 22)), .un (.cell 1) (.un (.cell 0) (.var 22))])))
            (
            .call 33 11 (.cons (.un (.agg) (.cons (.var 16) (.cons (.var 17) (.nil)))) (.cons (.var 15) (.nil))) [] <|
            .branch (.bin (.eq) (.un (.cell 1) (.var 33)) (.kint .i64 (0))) (
              .call 43 6 (.cons (.un (.agg) (.cons (.var 16) (.cons (.var 17) (.nil)))) (.cons (.un (.agg) (.cons (.un (.cell 0) (.un (.cell 0) (.var 33))) (.cons (.un (.cell 1) (.un (.cell 0) (.var 33))) (.nil)))) (.nil))) [] <|
              .branch (.un (.not) (.var 43)) (
                .ret (.kbool false))
                (
                .call 49 17 (.cons (.un (.agg) (.cons (.un (.cell 0) (.un (.cell 0) (.var 33))) (.cons (.un (.cell 1) (.un (.cell 0) (.var 33))) (.nil)))) (.cons (.var 15) (.nil))) [] <|
                .branch (.un (.not) (.var 49)) (
                  .ret (.kbool false))
                  (
                  .again 0 [.var 14, .bin (.add .i64) (.var 15) (.kint .i64 (1)), .un (.cell 0) (.un (.cell 0) (.var 33)), .un (.cell 1) (.un (.cell 0) (.var 33))])))
              (
              .call 43 17 (.cons (.un (.agg) (.cons (.var 16) (.cons (.var 17) (.nil)))) (.cons (.var 15) (.nil))) [] <|
              .branch (.un (.not) (.var 43)) (
                .ret (.kbool false))
                (
                .again 0 [.var 14, .bin (.add .i64) (.var 15) (.kint .i64 (1)), .var 16, .var 17]))))
          (
          .loop 21 [.var 14, .kint .i64 (1), .var 16, .var 17] [.bool, .int .i64, .list (.int .i64), .list (.int .i64)] (
            .branch (.bin (.le) (.var 22) (.kint .i64 (5))) (
              .branch (.bin (.eq) (.var 22) (.bin (.add .i64) (.kint .i64 (1)) (.bin (.rem .i64) (.var 1) (.kint .i64 (5))))) (
                .again 0 [.var 21, .bin (.add .i64) (.var 22) (.kint .i64 (1)), .var 23, .var 24])
                (
                .call 32 13 (.cons (.un (.agg) (.cons (.var 23) (.cons (.var 24) (.nil)))) (.cons (.var 22) (.nil))) [] <|
                .call 44 6 (.cons (.un (.agg) (.cons (.var 23) (.cons (.var 24) (.nil)))) (.cons (.un (.agg) (.cons (.un (.cell 0) (.un (.cell 0) (.var 32))) (.cons (.un (.cell 1) (.un (.cell 0) (.var 32))) (.nil)))) (.nil))) [(.bin (.ne) (.un (.cell 1) (.var 32)) (.kint .i64 (0)), false)] <|
                .call 49 16 (.cons (.un (.agg) (.cons (.un (.cell 0) (.un (.cell 0) (.var 32))) (.cons (.un (.cell 1) (.un (.cell 0) (.var 32))) (.nil)))) (.nil)) [(.bin (.or) (.bin (.ne) (.un (.cell 1) (.var 32)) (.kint .i64 (0))) (.un (.not) (.var 44)), false)] <|
                .branch (.bin (.or) (.bin (.or) (.bin (.ne) (.un (.cell 1) (.var 32)) (.kint .i64 (0))) (.un (.not) (.var 44))) (.un (.not) (.var 49))) (
                  .ret (.kbool false))
                  (
                  .again 0 [.var 21, .bin (.add .i64) (.var 22) (.kint .i64 (1)), .un (.cell 0) (.un (.cell 0) (.var 32)), .un (.cell 1) (.un (.cell 0) (.var 32))])))
              (
              .call 29 13 (.cons (.un (.agg) (.cons (.var 23) (.cons (.var 24) (.nil)))) (.cons (.bin (.add .i64) (.kint .i64 (1)) (.bin (.rem .i64) (.var 1) (.kint .i64 (5)))) (.nil))) [] <|
              .obl [(.bin (.and) (.bin (.eq) (.un (.cell 1) (.var 29)) (.kint .i64 (22))) (.bin (.eq) (.un (.len) (.var 23)) (.kint .i64 (1))), true)] (.bin (.and) (.bin (.le) (.kint .i64 (0)) (.kint .i64 (0))) (.bin (.lt) (.kint .i64 (0)) (.un (.len) (.var 23)))) <|
              .call 53 15 (.nil) [(.bin (.and) (.bin (.and) (.bin (.eq) (.un (.cell 1) (.var 29)) (.kint .i64 (22))) (.bin (.eq) (.un (.len) (.var 23)) (.kint .i64 (1)))) (.bin (.eq) (.bin (.idx) (.var 23) (.kint .i64 (0))) (.bin (.add .i64) (.kint .i64 (1)) (.bin (.rem .i64) (.var 1) (.kint .i64 (5))))), true)] <|
              .ret (.bin (.and) (.bin (.and) (.bin (.and) (.bin (.eq) (.un (.cell 1) (.var 29)) (.kint .i64 (22))) (.bin (.eq) (.un (.len) (.var 23)) (.kint .i64 (1)))) (.bin (.eq) (.bin (.idx) (.var 23) (.kint .i64 (0))) (.bin (.add .i64) (.kint .i64 (1)) (.bin (.rem .i64) (.var 1) (.kint .i64 (5)))))) (.var 53))))))))
def vc5 : VC :=
  .room [] (.bin (.cat) (.nil) (.un (.cell 0) (.var 0))) 8 <|
  .room [] (.bin (.cat) (.nil) (.un (.cell 1) (.var 0))) 8 <|
  .call 23 8 (.cons (.un (.agg) (.cons (.un (.cell 0) (.var 0)) (.cons (.un (.cell 1) (.var 0)) (.nil)))) (.cons (.var 1) (.nil))) [] <|
  .branch (.bin (.eq) (.un (.cell 1) (.var 23)) (.kint .i64 (0))) (
    .call 34 11 (.cons (.un (.agg) (.cons (.un (.cell 0) (.un (.cell 0) (.var 23))) (.cons (.un (.cell 1) (.un (.cell 0) (.var 23))) (.nil)))) (.cons (.var 1) (.nil))) [] <|
    .call 42 16 (.cons (.un (.agg) (.cons (.un (.cell 0) (.un (.cell 0) (.var 23))) (.cons (.un (.cell 1) (.un (.cell 0) (.var 23))) (.nil)))) (.nil)) [] <|
    .call 47 6 (.cons (.un (.agg) (.cons (.un (.cell 0) (.var 0)) (.cons (.un (.cell 1) (.var 0)) (.nil)))) (.cons (.un (.agg) (.cons (.un (.cell 0) (.un (.cell 0) (.var 23))) (.cons (.un (.cell 1) (.un (.cell 0) (.var 23))) (.nil)))) (.nil))) [(.un (.not) (.var 42), false)] <|
    .call 53 17 (.cons (.un (.agg) (.cons (.un (.cell 0) (.un (.cell 0) (.var 23))) (.cons (.un (.cell 1) (.un (.cell 0) (.var 23))) (.nil)))) (.cons (.var 1) (.nil))) [(.bin (.or) (.un (.not) (.var 42)) (.un (.not) (.var 47)), false)] <|
    .call 62 17 (.cons (.un (.agg) (.cons (.un (.cell 0) (.un (.cell 0) (.var 34))) (.cons (.un (.cell 1) (.un (.cell 0) (.var 34))) (.nil)))) (.cons (.var 1) (.nil))) [(.bin (.or) (.bin (.or) (.bin (.or) (.un (.not) (.var 42)) (.un (.not) (.var 47))) (.var 53)) (.bin (.ne) (.un (.cell 1) (.var 34)) (.kint .i64 (0))), false)] <|
    .call 68 6 (.cons (.un (.agg) (.cons (.un (.cell 0) (.un (.cell 0) (.var 23))) (.cons (.un (.cell 1) (.un (.cell 0) (.var 23))) (.nil)))) (.cons (.un (.agg) (.cons (.un (.cell 0) (.un (.cell 0) (.var 34))) (.cons (.un (.cell 1) (.un (.cell 0) (.var 34))) (.nil)))) (.nil))) [(.bin (.or) (.bin (.or) (.bin (.or) (.bin (.or) (.un (.not) (.var 42)) (.un (.not) (.var 47))) (.var 53)) (.bin (.ne) (.un (.cell 1) (.var 34)) (.kint .i64 (0)))) (.un (.not) (.var 62)), false)] <|
    .branch (.bin (.or) (.bin (.or) (.bin (.or) (.bin (.or) (.bin (.or) (.un (.not) (.var 42)) (.un (.not) (.var 47))) (.var 53)) (.bin (.ne) (.un (.cell 1) (.var 34)) (.kint .i64 (0)))) (.un (.not) (.var 62))) (.un (.not) (.var 68))) (
      .ret (.kbool false))
      (
      .call 73 13 (.cons (.un (.agg) (.cons (.un (.cell 0) (.un (.cell 0) (.var 34))) (.cons (.un (.cell 1) (.un (.cell 0) (.var 34))) (.nil)))) (.cons (.var 1) (.nil))) [] <|
      .call 85 18 (.cons (.un (.agg) (.cons (.un (.cell 0) (.un (.cell 0) (.var 73))) (.cons (.un (.cell 1) (.un (.cell 0) (.var 73))) (.nil)))) (.cons (.un (.agg) (.cons (.un (.cell 0) (.var 0)) (.cons (.un (.cell 1) (.var 0)) (.nil)))) (.nil))) [(.bin (.ne) (.un (.cell 1) (.var 73)) (.kint .i64 (0)), false)] <|
      .branch (.bin (.or) (.bin (.ne) (.un (.cell 1) (.var 73)) (.kint .i64 (0))) (.un (.not) (.var 85))) (
        .ret (.kbool false))
        (
        .call 90 13 (.cons (.un (.agg) (.cons (.un (.cell 0) (.var 0)) (.cons (.un (.cell 1) (.var 0)) (.nil)))) (.cons (.var 1) (.nil))) [] <|
        .branch (.bin (.eq) (.un (.cell 1) (.var 90)) (.kint .i64 (0))) (
          .call 99 20 (.cons (.un (.agg) (.cons (.un (.cell 0) (.un (.cell 0) (.var 90))) (.cons (.un (.cell 1) (.un (.cell 0) (.var 90))) (.nil)))) (.nil)) [] <|
          .call 101 19 (.cons (.var 99) (.cons (.var 1) (.nil))) [] <|
          .call 106 16 (.cons (.un (.agg) (.cons (.un (.cell 0) (.un (.cell 0) (.var 90))) (.cons (.un (.cell 1) (.un (.cell 0) (.var 90))) (.nil)))) (.nil)) [(.var 101, false)] <|
          .call 112 6 (.cons (.un (.agg) (.cons (.un (.cell 0) (.var 0)) (.cons (.un (.cell 1) (.var 0)) (.nil)))) (.cons (.un (.agg) (.cons (.un (.cell 0) (.un (.cell 0) (.var 90))) (.cons (.un (.cell 1) (.un (.cell 0) (.var 90))) (.nil)))) (.nil))) [(.bin (.or) (.var 101) (.un (.not) (.var 106)), false)] <|
          .branch (.bin (.or) (.bin (.or) (.var 101) (.un (.not) (.var 106))) (.un (.not) (.var 112))) (
            .ret (.kbool false))
            (
            .loop 116 [.kint .i64 (0), .un (.cell 0) (.un (.cell 0) (.var 90)), .un (.cell 1) (.un (.cell 0) (.var 90))] [.int .i64, .list (.int .i64), .list (.int .i64)] (
              .branch (.bin (.lt) (.var 116) (.un (.len) (.var 117))) (
                .obl [] (.bin (.and) (.bin (.le) (.kint .i64 (0)) (.var 116)) (.bin (.lt) (.var 116) (.un (.len) (.var 117)))) <|
                .again 0 [.bin (.add .i64) (.var 116) (.kint .i64 (1)), .bin (.cat) (.bin (.take) (.var 117) (.var 116)) (.cons (.kint .i64 (99)) (.bin (.drop) (.bin (.drop) (.var 117) (.var 116)) (.kint .i64 (1)))), .var 118])
                (
                .loop 125 [.kint .i64 (0), .var 117, .var 118] [.int .i64, .list (.int .i64), .list (.int .i64)] (
                  .branch (.bin (.lt) (.var 125) (.un (.len) (.var 127))) (
                    .obl [] (.bin (.and) (.bin (.le) (.kint .i64 (0)) (.var 125)) (.bin (.lt) (.var 125) (.un (.len) (.var 127)))) <|
                    .again 0 [.bin (.add .i64) (.var 125) (.kint .i64 (1)), .var 126, .bin (.cat) (.bin (.take) (.var 127) (.var 125)) (.cons (.kint .i64 (99)) (.bin (.drop) (.bin (.drop) (.var 127) (.var 125)) (.kint .i64 (1))))])
                    (
                    .call 135 10 (.cons (.un (.agg) (.cons (.un (.cell 0) (.var 0)) (.cons (.un (.cell 1) (.var 0)) (.nil)))) (.cons (.un (.agg) (.cons (.bin (.cat) (.nil) (.un (.cell 0) (.var 0))) (.cons (.bin (.cat) (.nil) (.un (.cell 1) (.var 0))) (.nil)))) (.nil))) [] <|
                    .call 139 15 (.nil) [(.var 135, true)] <|
                    .ret (.bin (.and) (.var 135) (.var 139))))))))
          (
          .loop 99 [.kint .i64 (0), .un (.cell 0) (.un (.cell 0) (.var 90)), .un (.cell 1) (.un (.cell 0) (.var 90))] [.int .i64, .list (.int .i64), .list (.int .i64)] (
            .branch (.bin (.lt) (.var 99) (.un (.len) (.var 100))) (
              .obl [] (.bin (.and) (.bin (.le) (.kint .i64 (0)) (.var 99)) (.bin (.lt) (.var 99) (.un (.len) (.var 100)))) <|
              .again 0 [.bin (.add .i64) (.var 99) (.kint .i64 (1)), .bin (.cat) (.bin (.take) (.var 100) (.var 99)) (.cons (.kint .i64 (99)) (.bin (.drop) (.bin (.drop) (.var 100) (.var 99)) (.kint .i64 (1)))), .var 101])
              (
              .loop 108 [.kint .i64 (0), .var 100, .var 101] [.int .i64, .list (.int .i64), .list (.int .i64)] (
                .branch (.bin (.lt) (.var 108) (.un (.len) (.var 110))) (
                  .obl [] (.bin (.and) (.bin (.le) (.kint .i64 (0)) (.var 108)) (.bin (.lt) (.var 108) (.un (.len) (.var 110)))) <|
                  .again 0 [.bin (.add .i64) (.var 108) (.kint .i64 (1)), .var 109, .bin (.cat) (.bin (.take) (.var 110) (.var 108)) (.cons (.kint .i64 (99)) (.bin (.drop) (.bin (.drop) (.var 110) (.var 108)) (.kint .i64 (1))))])
                  (
                  .call 118 10 (.cons (.un (.agg) (.cons (.un (.cell 0) (.var 0)) (.cons (.un (.cell 1) (.var 0)) (.nil)))) (.cons (.un (.agg) (.cons (.bin (.cat) (.nil) (.un (.cell 0) (.var 0))) (.cons (.bin (.cat) (.nil) (.un (.cell 1) (.var 0))) (.nil)))) (.nil))) [] <|
                  .call 122 15 (.nil) [(.var 118, true)] <|
                  .ret (.bin (.and) (.var 118) (.var 122))))))))))
    (
    .call 34 13 (.cons (.un (.agg) (.cons (.un (.cell 0) (.var 0)) (.cons (.un (.cell 1) (.var 0)) (.nil)))) (.cons (.var 1) (.nil))) [] <|
    .branch (.bin (.eq) (.un (.cell 1) (.var 34)) (.kint .i64 (0))) (
      .call 43 20 (.cons (.un (.agg) (.cons (.un (.cell 0) (.un (.cell 0) (.var 34))) (.cons (.un (.cell 1) (.un (.cell 0) (.var 34))) (.nil)))) (.nil)) [] <|
      .call 45 19 (.cons (.var 43) (.cons (.var 1) (.nil))) [] <|
      .call 50 16 (.cons (.un (.agg) (.cons (.un (.cell 0) (.un (.cell 0) (.var 34))) (.cons (.un (.cell 1) (.un (.cell 0) (.var 34))) (.nil)))) (.nil)) [(.var 45, false)] <|
      .call 56 6 (.cons (.un (.agg) (.cons (.un (.cell 0) (.var 0)) (.cons (.un (.cell 1) (.var 0)) (.nil)))) (.cons (.un (.agg) (.cons (.un (.cell 0) (.un (.cell 0) (.var 34))) (.cons (.un (.cell 1) (.un (.cell 0) (.var 34))) (.nil)))) (.nil))) [(.bin (.or) (.var 45) (.un (.not) (.var 50)), false)] <|
      .branch (.bin (.or) (.bin (.or) (.var 45) (.un (.not) (.var 50))) (.un (.not) (.var 56))) (
        .ret (.kbool false))
        (
        .loop 60 [.kint .i64 (0), .un (.cell 0) (.un (.cell 0) (.var 34)), .un (.cell 1) (.un (.cell 0) (.var 34))] [.int .i64, .list (.int .i64), .list (.int .i64)] (
          .branch (.bin (.lt) (.var 60) (.un (.len) (.var 61))) (
            .obl [] (.bin (.and) (.bin (.le) (.kint .i64 (0)) (.var 60)) (.bin (.lt) (.var 60) (.un (.len) (.var 61)))) <|
            .again 0 [.bin (.add .i64) (.var 60) (.kint .i64 (1)), .bin (.cat) (.bin (.take) (.var 61) (.var 60)) (.cons (.kint .i64 (99)) (.bin (.drop) (.bin (.drop) (.var 61) (.var 60)) (.kint .i64 (1)))), .var 62])
            (
            .loop 69 [.kint .i64 (0), .var 61, .var 62] [.int .i64, .list (.int .i64), .list (.int .i64)] (
              .branch (.bin (.lt) (.var 69) (.un (.len) (.var 71))) (
                .obl [] (.bin (.and) (.bin (.le) (.kint .i64 (0)) (.var 69)) (.bin (.lt) (.var 69) (.un (.len) (.var 71)))) <|
                .again 0 [.bin (.add .i64) (.var 69) (.kint .i64 (1)), .var 70, .bin (.cat) (.bin (.take) (.var 71) (.var 69)) (.cons (.kint .i64 (99)) (.bin (.drop) (.bin (.drop) (.var 71) (.var 69)) (.kint .i64 (1))))])
                (
                .call 79 10 (.cons (.un (.agg) (.cons (.un (.cell 0) (.var 0)) (.cons (.un (.cell 1) (.var 0)) (.nil)))) (.cons (.un (.agg) (.cons (.bin (.cat) (.nil) (.un (.cell 0) (.var 0))) (.cons (.bin (.cat) (.nil) (.un (.cell 1) (.var 0))) (.nil)))) (.nil))) [] <|
                .call 83 15 (.nil) [(.var 79, true)] <|
                .ret (.bin (.and) (.var 79) (.var 83))))))))
      (
      .loop 43 [.kint .i64 (0), .un (.cell 0) (.un (.cell 0) (.var 34)), .un (.cell 1) (.un (.cell 0) (.var 34))] [.int .i64, .list (.int .i64), .list (.int .i64)] (
        .branch (.bin (.lt) (.var 43) (.un (.len) (.var 44))) (
          .obl [] (.bin (.and) (.bin (.le) (.kint .i64 (0)) (.var 43)) (.bin (.lt) (.var 43) (.un (.len) (.var 44)))) <|
          .again 0 [.bin (.add .i64) (.var 43) (.kint .i64 (1)), .bin (.cat) (.bin (.take) (.var 44) (.var 43)) (.cons (.kint .i64 (99)) (.bin (.drop) (.bin (.drop) (.var 44) (.var 43)) (.kint .i64 (1)))), .var 45])
          (
          .loop 52 [.kint .i64 (0), .var 44, .var 45] [.int .i64, .list (.int .i64), .list (.int .i64)] (
            .branch (.bin (.lt) (.var 52) (.un (.len) (.var 54))) (
              .obl [] (.bin (.and) (.bin (.le) (.kint .i64 (0)) (.var 52)) (.bin (.lt) (.var 52) (.un (.len) (.var 54)))) <|
              .again 0 [.bin (.add .i64) (.var 52) (.kint .i64 (1)), .var 53, .bin (.cat) (.bin (.take) (.var 54) (.var 52)) (.cons (.kint .i64 (99)) (.bin (.drop) (.bin (.drop) (.var 54) (.var 52)) (.kint .i64 (1))))])
              (
              .call 62 10 (.cons (.un (.agg) (.cons (.un (.cell 0) (.var 0)) (.cons (.un (.cell 1) (.var 0)) (.nil)))) (.cons (.un (.agg) (.cons (.bin (.cat) (.nil) (.un (.cell 0) (.var 0))) (.cons (.bin (.cat) (.nil) (.un (.cell 1) (.var 0))) (.nil)))) (.nil))) [] <|
              .call 66 15 (.nil) [(.var 62, true)] <|
              .ret (.bin (.and) (.var 62) (.var 66))))))))
end Go.Proofs.Ytcmejjgjkjiggab
