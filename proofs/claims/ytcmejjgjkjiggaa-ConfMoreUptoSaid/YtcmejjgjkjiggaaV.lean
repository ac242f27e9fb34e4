/-
  Signatures, tables and conditions of the functions of this seat, as a program of ours printed them.
-/
import Derived.Test.YtcmejjgjkjiggaaEngZ
import Derived.Test.YtcmejjgjkjiggaaEngW
import Derived.Test.YtcmejjgjkjiggaaProg
namespace Go.Proofs.Ytcmejjgjkjiggaa
open Go Go.Eng Go.Proofs


def confT : Ty := .agg (.ofL [.list (.int .i64), .list (.int .i64)])
def s34 : Sig := ⟨[.list (.int .i64), .int .i64], [(false, [(.int .i64, none)])], none⟩
def tb34 : List (Nat × Sig) := (34, s34) :: []
def s24 : Sig := ⟨[.list (.int .i64), .int .i64], [(false, [(.bool, none)])], none⟩
def tb24 : List (Nat × Sig) := (24, s24) :: tb34
def s27 : Sig := ⟨[.list (.int .i64)], [(false, [(.int .i64, some (1, 3))])], none⟩
def tb27 : List (Nat × Sig) := (27, s27) :: tb24
def s25 : Sig := ⟨[.list (.int .i64)], [], some ⟨[], [], [[], []], false⟩⟩
def tb25 : List (Nat × Sig) := (25, s25) :: tb27
def s28 : Sig := ⟨[.list (.int .i64)], [(false, [(.list (.int .i64), none)])], some ⟨[], [], [[], []], false⟩⟩
def tb28 : List (Nat × Sig) := (28, s28) :: tb25
def s32 : Sig := ⟨[.list (.int .i64), .list (.int .i64)], [(false, [(.bool, none)])], none⟩
def tb32 : List (Nat × Sig) := (32, s32) :: tb28
def s30 : Sig := ⟨[.list (.int .i64)], [(false, [(.bool, none)])], none⟩
def tb30 : List (Nat × Sig) := (30, s30) :: tb32
def s20 : Sig := ⟨[confT], [(false, [(.bool, none)])], none⟩
def tb20 : List (Nat × Sig) := (20, s20) :: tb30
def s22 : Sig := ⟨[confT, confT], [(false, [(.bool, none)])], none⟩
def tb22 : List (Nat × Sig) := (22, s22) :: tb20
def s16 : Sig := ⟨[confT, .int .i64], [(false, [(.bool, none)])], none⟩
def tb16 : List (Nat × Sig) := (16, s16) :: tb22
def s18 : Sig := ⟨[confT], [(false, [(.list (.int .i64), none)])], none⟩
def tb18 : List (Nat × Sig) := (18, s18) :: tb16
def s9 : Sig := ⟨[confT, .list (.int .i64)], [(false, [(.bool, none)])], none⟩
def tb9 : List (Nat × Sig) := (9, s9) :: tb18
def s11 : Sig := ⟨[confT, .list (.int .i64)], [(false, [(.int .i64, none)])], none⟩
def tb11 : List (Nat × Sig) := (11, s11) :: tb9
def s14 : Sig := ⟨[confT, confT], [(false, [(.bool, none)])], none⟩
def tb14 : List (Nat × Sig) := (14, s14) :: tb11
def s37 : Sig := ⟨[.list (.int .i64), .int .i64], [(false, [(.list (.int .i64), none)])], none⟩
def tb37 : List (Nat × Sig) := (37, s37) :: tb14
def s26 : Sig := ⟨[confT, .int .i64], [(true, confT.cells.map fun c => (c, none)), (false, [(.int .i64, none)])], none⟩
def tb26 : List (Nat × Sig) := (26, s26) :: tb37
def s15 : Sig := ⟨[.list (.int .i64), .int .i64], [(false, [(.bool, none)])], none⟩
def tb15 : List (Nat × Sig) := (15, s15) :: tb26
def s31 : Sig := ⟨[.list (.int .i64)], [(false, [(.bool, none)])], none⟩
def tb31 : List (Nat × Sig) := (31, s31) :: tb15
def s21 : Sig := ⟨[confT], [(false, [(.bool, none)])], none⟩
def tb21 : List (Nat × Sig) := (21, s21) :: tb31
def s33 : Sig := ⟨[.list (.int .i64), .list (.int .i64)], [(false, [(.bool, none)])], none⟩
def tb33 : List (Nat × Sig) := (33, s33) :: tb21
def s23 : Sig := ⟨[confT, confT], [(false, [(.bool, none)])], none⟩
def tb23 : List (Nat × Sig) := (23, s23) :: tb33
def s29 : Sig := ⟨[.list (.int .i64), .int .i64], [(false, [(.list (.int .i64), none)])], none⟩
def tb29 : List (Nat × Sig) := (29, s29) :: tb23
def s19 : Sig := ⟨[confT], [(false, [(.list (.int .i64), none)])], none⟩
def tb19 : List (Nat × Sig) := (19, s19) :: tb29
def s10 : Sig := ⟨[confT, .list (.int .i64)], [(false, [(.bool, none)])], none⟩
def tb10 : List (Nat × Sig) := (10, s10) :: tb19
def s17 : Sig := ⟨[.list (.int .i64), .list (.int .i64)], [(false, [(.bool, none)])], none⟩
def tb17 : List (Nat × Sig) := (17, s17) :: tb10
def s12 : Sig := ⟨[confT, .list (.int .i64)], [(false, [(.int .i64, none)])], none⟩
def tb12 : List (Nat × Sig) := (12, s12) :: tb17
def s13 : Sig := ⟨[], [(false, [(.bool, none)])], none⟩
def tb13 : List (Nat × Sig) := (13, s13) :: tb12
def s3 : Sig := ⟨[confT, .list (.int .i64), .list (.int .i64)], [(false, [(.bool, none)])], none⟩
def tb3 : List (Nat × Sig) := (3, s3) :: tb13
def s4 : Sig := ⟨[confT, .list (.int .i64)], [(false, [(.bool, none)])], none⟩
def tb4 : List (Nat × Sig) := (4, s4) :: tb3
def s7 : Sig := ⟨[confT, confT, .list (.int .i64)], [(false, [(.bool, none)])], none⟩
def tb7 : List (Nat × Sig) := (7, s7) :: tb4
def s8 : Sig := ⟨[confT, confT, .int .i64], [(false, [(.bool, none)])], none⟩
def tb8 : List (Nat × Sig) := (8, s8) :: tb7
def s6 : Sig := ⟨[confT, confT, .agg (.ofL [.list (.int .i64), .list (.int .i64)])], [(false, [(.bool, none)])], none⟩
def tb6 : List (Nat × Sig) := (6, s6) :: tb8
def s5 : Sig := ⟨[confT, .list (.int .i64), .list (.int .i64)], [(false, [(.bool, none)])], none⟩
def tb5 : List (Nat × Sig) := (5, s5) :: tb6
def vc34 : VC :=
  .loop 6 [.kint .i64 (0), .kint .i64 (0)] [.int .i64, .int .i64] (
    .branch (.bin (.lt) (.var 7) (.un (.len) (.var 0))) (
      .obl [] (.bin (.and) (.bin (.le) (.kint .i64 (0)) (.var 7)) (.bin (.lt) (.var 7) (.un (.len) (.var 0)))) <|
      .branch (.bin (.eq) (.var 1) (.bin (.idx) (.var 0) (.var 7))) (
        .ret (.var 7))
        (
        .again 0 [.var 6, .bin (.add .i64) (.var 7) (.kint .i64 (1))]))
      (
      .ret (.kint .i64 (-1))))
def vc24 : VC :=
  .call 5 34 (.cons (.var 0) (.cons (.var 1) (.nil))) [] <|
  .ret (.bin (.ge) (.var 5) (.kint .i64 (0)))
def vc32 : VC :=
  .branch (.bin (.ne) (.un (.len) (.var 0)) (.un (.len) (.var 1))) (
    .ret (.kbool false))
    (
    .loop 11 [.kbool false, .kint .i64 (0)] [.bool, .int .i64] (
      .branch (.bin (.lt) (.var 12) (.un (.len) (.var 0))) (
        .obl [] (.bin (.and) (.bin (.le) (.kint .i64 (0)) (.var 12)) (.bin (.lt) (.var 12) (.un (.len) (.var 0)))) <|
        .obl [] (.bin (.and) (.bin (.le) (.kint .i64 (0)) (.var 12)) (.bin (.lt) (.var 12) (.un (.len) (.var 1)))) <|
        .branch (.bin (.ne) (.bin (.idx) (.var 0) (.var 12)) (.bin (.idx) (.var 1) (.var 12))) (
          .ret (.kbool false))
          (
          .again 0 [.var 11, .bin (.add .i64) (.var 12) (.kint .i64 (1))]))
        (
        .ret (.kbool true))))
def vc30 : VC :=
  .loop 5 [.kbool false, .kint .i64 (0)] [.bool, .int .i64] (
    .branch (.bin (.lt) (.var 6) (.un (.len) (.var 0))) (
      .obl [] (.bin (.and) (.bin (.le) (.kint .i64 (0)) (.var 6)) (.bin (.lt) (.var 6) (.un (.len) (.var 0)))) <|
      .obl [(.bin (.lt) (.bin (.idx) (.var 0) (.var 6)) (.kint .i64 (1)), false)] (.bin (.and) (.bin (.le) (.kint .i64 (0)) (.var 6)) (.bin (.lt) (.var 6) (.un (.len) (.var 0)))) <|
      .obl [(.bin (.gt) (.var 6) (.kint .i64 (0)), true), (.bin (.or) (.bin (.lt) (.bin (.idx) (.var 0) (.var 6)) (.kint .i64 (1))) (.bin (.gt) (.bin (.idx) (.var 0) (.var 6)) (.kint .i64 (5))), false)] (.bin (.and) (.bin (.le) (.kint .i64 (0)) (.bin (.sub .i64) (.var 6) (.kint .i64 (1)))) (.bin (.lt) (.bin (.sub .i64) (.var 6) (.kint .i64 (1))) (.un (.len) (.var 0)))) <|
      .obl [(.bin (.gt) (.var 6) (.kint .i64 (0)), true), (.bin (.or) (.bin (.lt) (.bin (.idx) (.var 0) (.var 6)) (.kint .i64 (1))) (.bin (.gt) (.bin (.idx) (.var 0) (.var 6)) (.kint .i64 (5))), false)] (.bin (.and) (.bin (.le) (.kint .i64 (0)) (.var 6)) (.bin (.lt) (.var 6) (.un (.len) (.var 0)))) <|
      .branch (.bin (.or) (.bin (.or) (.bin (.lt) (.bin (.idx) (.var 0) (.var 6)) (.kint .i64 (1))) (.bin (.gt) (.bin (.idx) (.var 0) (.var 6)) (.kint .i64 (5)))) (.bin (.and) (.bin (.gt) (.var 6) (.kint .i64 (0))) (.bin (.ge) (.bin (.idx) (.var 0) (.bin (.sub .i64) (.var 6) (.kint .i64 (1)))) (.bin (.idx) (.var 0) (.var 6))))) (
        .ret (.kbool false))
        (
        .again 0 [.var 5, .bin (.add .i64) (.var 6) (.kint .i64 (1))]))
      (
      .ret (.kbool true)))
def vc20 : VC :=
  .call 5 30 (.cons (.un (.cell 0) (.var 0)) (.nil)) [] <|
  .call 10 30 (.cons (.un (.cell 1) (.var 0)) (.nil)) [(.un (.not) (.var 5), false)] <|
  .branch (.bin (.or) (.bin (.or) (.un (.not) (.var 5)) (.un (.not) (.var 10))) (.bin (.eq) (.un (.len) (.un (.cell 0) (.var 0))) (.kint .i64 (0)))) (
    .ret (.kbool false))
    (
    .loop 23 [.kbool false, .kint .i64 (0)] [.bool, .int .i64] (
      .branch (.bin (.lt) (.var 24) (.un (.len) (.un (.cell 1) (.var 0)))) (
        .obl [] (.bin (.and) (.bin (.le) (.kint .i64 (0)) (.var 24)) (.bin (.lt) (.var 24) (.un (.len) (.un (.cell 1) (.var 0))))) <|
        .call 35 24 (.cons (.un (.cell 0) (.var 0)) (.cons (.bin (.idx) (.un (.cell 1) (.var 0)) (.var 24)) (.nil))) [] <|
        .branch (.var 35) (
          .ret (.kbool false))
          (
          .again 0 [.var 23, .bin (.add .i64) (.var 24) (.kint .i64 (1))]))
        (
        .ret (.kbool true))))
def vc22 : VC :=
  .call 9 32 (.cons (.un (.cell 0) (.var 0)) (.cons (.un (.cell 0) (.var 1)) (.nil))) [] <|
  .call 15 32 (.cons (.un (.cell 1) (.var 0)) (.cons (.un (.cell 1) (.var 1)) (.nil))) [(.var 9, true)] <|
  .ret (.bin (.and) (.var 9) (.var 15))
def vc16 : VC :=
  .call 7 24 (.cons (.un (.cell 0) (.var 0)) (.cons (.var 1) (.nil))) [] <|
  .ret (.var 7)
def vc18 : VC :=
  .call 5 27 (.cons (.un (.cell 0) (.var 0)) (.nil)) [] <|
  .room [] (.bin (.cat) (.var 5) (.un (.cell 1) (.var 0))) 8 <|
  .call 11 25 (.cons (.bin (.cat) (.var 5) (.un (.cell 1) (.var 0))) (.nil)) [] <|
  .call 13 28 (.cons (.var 11) (.nil)) [] <|
  .ret (.var 13)
def vc9 : VC :=
  .loop 9 [.kint .i64 (0), .kint .i64 (0)] [.int .i64, .int .i64] (
    .branch (.bin (.lt) (.var 10) (.un (.len) (.un (.cell 0) (.var 0)))) (
      .obl [] (.bin (.and) (.bin (.le) (.kint .i64 (0)) (.var 10)) (.bin (.lt) (.var 10) (.un (.len) (.un (.cell 0) (.var 0))))) <|
      .call 20 24 (.cons (.var 1) (.cons (.bin (.idx) (.un (.cell 0) (.var 0)) (.var 10)) (.nil))) [] <|
      .branch (.var 20) (
        .again 0 [.bin (.add .i64) (.var 9) (.kint .i64 (1)), .bin (.add .i64) (.var 10) (.kint .i64 (1))])
        (
        .again 0 [.var 9, .bin (.add .i64) (.var 10) (.kint .i64 (1))]))
      (
      .ret (.bin (.gt) (.bin (.mul .i64) (.kint .i64 (2)) (.var 9)) (.un (.len) (.un (.cell 0) (.var 0))))))
def vc11 : VC :=
  .loop 9 [.nil, .kint .i64 (0)] [.list (.int .i64), .int .i64] (
    .branch (.bin (.lt) (.var 10) (.un (.len) (.un (.cell 0) (.var 0)))) (
      .obl [] (.bin (.and) (.bin (.le) (.kint .i64 (0)) (.var 10)) (.bin (.lt) (.var 10) (.un (.len) (.un (.cell 0) (.var 0))))) <|
      .branch (.bin (.and) (.bin (.ge) (.bin (.idx) (.un (.cell 0) (.var 0)) (.var 10)) (.kint .i64 (1))) (.bin (.le) (.bin (.idx) (.un (.cell 0) (.var 0)) (.var 10)) (.un (.len) (.var 1)))) (
        .obl [] (.bin (.and) (.bin (.le) (.kint .i64 (0)) (.bin (.sub .i64) (.bin (.idx) (.un (.cell 0) (.var 0)) (.var 10)) (.kint .i64 (1)))) (.bin (.lt) (.bin (.sub .i64) (.bin (.idx) (.un (.cell 0) (.var 0)) (.var 10)) (.kint .i64 (1))) (.un (.len) (.var 1)))) <|
        .room [] (.bin (.cat) (.var 9) (.cons (.bin (.max .i64) (.kint .i64 (0)) (.bin (.idx) (.var 1) (.bin (.sub .i64) (.bin (.idx) (.un (.cell 0) (.var 0)) (.var 10)) (.kint .i64 (1))))) (.nil))) 8 <|
        .again 0 [.bin (.cat) (.var 9) (.cons (.bin (.max .i64) (.kint .i64 (0)) (.bin (.idx) (.var 1) (.bin (.sub .i64) (.bin (.idx) (.un (.cell 0) (.var 0)) (.var 10)) (.kint .i64 (1))))) (.nil)), .bin (.add .i64) (.var 10) (.kint .i64 (1))])
        (
        .room [] (.bin (.cat) (.var 9) (.cons (.kint .i64 (0)) (.nil))) 8 <|
        .again 0 [.bin (.cat) (.var 9) (.cons (.kint .i64 (0)) (.nil)), .bin (.add .i64) (.var 10) (.kint .i64 (1))]))
      (
      .branch (.bin (.eq) (.un (.len) (.var 9)) (.kint .i64 (0))) (
        .ret (.kint .i64 (0)))
        (
        .call 16 25 (.cons (.var 9) (.nil)) [] <|
        .obl [] (.bin (.ne) (.kint .i64 (2)) (.kint .i64 (0))) <|
        .obl [] (.bin (.and) (.bin (.le) (.kint .i64 (0)) (.bin (.quo .i64) (.bin (.sub .i64) (.un (.len) (.var 16)) (.kint .i64 (1))) (.kint .i64 (2)))) (.bin (.lt) (.bin (.quo .i64) (.bin (.sub .i64) (.un (.len) (.var 16)) (.kint .i64 (1))) (.kint .i64 (2))) (.un (.len) (.var 16)))) <|
        .ret (.bin (.idx) (.var 16) (.bin (.quo .i64) (.bin (.sub .i64) (.un (.len) (.var 16)) (.kint .i64 (1))) (.kint .i64 (2)))))))
def vc14 : VC :=
  .call 6 20 (.cons (.un (.agg) (.cons (.un (.cell 0) (.var 0)) (.cons (.un (.cell 1) (.var 0)) (.nil)))) (.nil)) [] <|
  .call 10 20 (.cons (.un (.agg) (.cons (.un (.cell 0) (.var 1)) (.cons (.un (.cell 1) (.var 1)) (.nil)))) (.nil)) [(.un (.not) (.var 6), false)] <|
  .branch (.bin (.or) (.un (.not) (.var 6)) (.un (.not) (.var 10))) (
    .ret (.kbool false))
    (
    .loop 15 [.kint .i64 (0), .kint .i64 (0)] [.int .i64, .int .i64] (
      .branch (.bin (.lt) (.var 16) (.kint .i64 (6))) (
        .call 22 16 (.cons (.un (.agg) (.cons (.un (.cell 0) (.var 0)) (.cons (.un (.cell 1) (.var 0)) (.nil)))) (.cons (.var 16) (.nil))) [] <|
        .call 25 16 (.cons (.un (.agg) (.cons (.un (.cell 0) (.var 1)) (.cons (.un (.cell 1) (.var 1)) (.nil)))) (.cons (.var 16) (.nil))) [] <|
        .branch (.un (.not) (.bin (.beq) (.var 22) (.var 25))) (
          .again 0 [.bin (.add .i64) (.var 15) (.kint .i64 (1)), .bin (.add .i64) (.var 16) (.kint .i64 (1))])
          (
          .again 0 [.var 15, .bin (.add .i64) (.var 16) (.kint .i64 (1))]))
        (
        .ret (.bin (.le) (.var 15) (.kint .i64 (1))))))
def vc37 : VC :=
  .call 4 27 (.cons (.var 0) (.nil)) [] <|
  .room [] (.bin (.cat) (.var 4) (.cons (.var 1) (.nil))) 8 <|
  .call 10 25 (.cons (.bin (.cat) (.var 4) (.cons (.var 1) (.nil))) (.nil)) [] <|
  .ret (.var 10)
def vc26 : VC :=
  .call 6 20 (.cons (.un (.agg) (.cons (.un (.cell 0) (.var 0)) (.cons (.un (.cell 1) (.var 0)) (.nil)))) (.nil)) [] <|
  .call 18 18 (.cons (.un (.agg) (.cons (.un (.cell 0) (.var 0)) (.cons (.un (.cell 1) (.var 0)) (.nil)))) (.nil)) [(.bin (.or) (.bin (.or) (.un (.not) (.var 6)) (.bin (.lt) (.var 1) (.kint .i64 (1)))) (.bin (.gt) (.var 1) (.kint .i64 (5))), false)] <|
  .call 20 24 (.cons (.var 18) (.cons (.var 1) (.nil))) [(.bin (.or) (.bin (.or) (.un (.not) (.var 6)) (.bin (.lt) (.var 1) (.kint .i64 (1)))) (.bin (.gt) (.var 1) (.kint .i64 (5))), false)] <|
  .branch (.bin (.or) (.bin (.or) (.bin (.or) (.un (.not) (.var 6)) (.bin (.lt) (.var 1) (.kint .i64 (1)))) (.bin (.gt) (.var 1) (.kint .i64 (5)))) (.var 20)) (
    .ret (.un (.tup) (.cons (.un (.agg) (.cons (.nil) (.cons (.nil) (.nil)))) (.cons (.kint .i64 (22)) (.nil)))))
    (
    .call 24 27 (.cons (.un (.cell 0) (.var 0)) (.nil)) [] <|
    .call 28 37 (.cons (.un (.cell 1) (.var 0)) (.cons (.var 1) (.nil))) [] <|
    .ret (.un (.tup) (.cons (.un (.agg) (.cons (.var 24) (.cons (.var 28) (.nil)))) (.cons (.kint .i64 (0)) (.nil)))))
def vc15 : VC :=
  .loop 4 [.kbool false, .kint .i64 (0)] [.bool, .int .i64] (
    .branch (.bin (.lt) (.var 5) (.un (.len) (.var 0))) (
      .obl [] (.bin (.and) (.bin (.le) (.kint .i64 (0)) (.var 5)) (.bin (.lt) (.var 5) (.un (.len) (.var 0)))) <|
      .branch (.bin (.eq) (.bin (.idx) (.var 0) (.var 5)) (.var 1)) (
        .ret (.kbool true))
        (
        .again 0 [.var 4, .bin (.add .i64) (.var 5) (.kint .i64 (1))]))
      (
      .ret (.kbool false)))
def vc31 : VC :=
  .loop 3 [.kbool false, .kint .i64 (0)] [.bool, .int .i64] (
    .branch (.bin (.lt) (.var 4) (.un (.len) (.var 0))) (
      .obl [] (.bin (.and) (.bin (.le) (.kint .i64 (0)) (.var 4)) (.bin (.lt) (.var 4) (.un (.len) (.var 0)))) <|
      .obl [(.bin (.lt) (.bin (.idx) (.var 0) (.var 4)) (.kint .i64 (1)), false)] (.bin (.and) (.bin (.le) (.kint .i64 (0)) (.var 4)) (.bin (.lt) (.var 4) (.un (.len) (.var 0)))) <|
      .obl [(.bin (.gt) (.var 4) (.kint .i64 (0)), true), (.bin (.or) (.bin (.lt) (.bin (.idx) (.var 0) (.var 4)) (.kint .i64 (1))) (.bin (.gt) (.bin (.idx) (.var 0) (.var 4)) (.kint .i64 (5))), false)] (.bin (.and) (.bin (.le) (.kint .i64 (0)) (.var 4)) (.bin (.lt) (.var 4) (.un (.len) (.var 0)))) <|
      .obl [(.bin (.gt) (.var 4) (.kint .i64 (0)), true), (.bin (.or) (.bin (.lt) (.bin (.idx) (.var 0) (.var 4)) (.kint .i64 (1))) (.bin (.gt) (.bin (.idx) (.var 0) (.var 4)) (.kint .i64 (5))), false)] (.bin (.and) (.bin (.le) (.kint .i64 (0)) (.bin (.sub .i64) (.var 4) (.kint .i64 (1)))) (.bin (.lt) (.bin (.sub .i64) (.var 4) (.kint .i64 (1))) (.un (.len) (.var 0)))) <|
      .branch (.bin (.or) (.bin (.or) (.bin (.lt) (.bin (.idx) (.var 0) (.var 4)) (.kint .i64 (1))) (.bin (.gt) (.bin (.idx) (.var 0) (.var 4)) (.kint .i64 (5)))) (.bin (.and) (.bin (.gt) (.var 4) (.kint .i64 (0))) (.bin (.le) (.bin (.idx) (.var 0) (.var 4)) (.bin (.idx) (.var 0) (.bin (.sub .i64) (.var 4) (.kint .i64 (1))))))) (
        .ret (.kbool false))
        (
        .again 0 [.var 3, .bin (.add .i64) (.var 4) (.kint .i64 (1))]))
      (
      .ret (.kbool true)))
def vc21 : VC :=
  .call 5 31 (.cons (.un (.cell 0) (.var 0)) (.nil)) [] <|
  .call 9 31 (.cons (.un (.cell 1) (.var 0)) (.nil)) [] <|
  .branch (.bin (.or) (.bin (.or) (.un (.not) (.var 5)) (.un (.not) (.var 9))) (.bin (.lt) (.un (.len) (.un (.cell 0) (.var 0))) (.kint .i64 (1)))) (
    .ret (.kbool false))
    (
    .loop 24 [.kbool false, .kint .i64 (1)] [.bool, .int .i64] (
      .branch (.bin (.le) (.var 25) (.kint .i64 (5))) (
        .call 31 15 (.cons (.un (.cell 0) (.var 0)) (.cons (.var 25) (.nil))) [] <|
        .call 36 15 (.cons (.un (.cell 1) (.var 0)) (.cons (.var 25) (.nil))) [] <|
        .branch (.bin (.and) (.var 31) (.var 36)) (
          .ret (.kbool false))
          (
          .again 0 [.var 24, .bin (.add .i64) (.var 25) (.kint .i64 (1))]))
        (
        .ret (.kbool true))))
def vc33 : VC :=
  .branch (.bin (.ne) (.un (.len) (.var 0)) (.un (.len) (.var 1))) (
    .ret (.kbool false))
    (
    .loop 9 [.kbool false, .kint .i64 (0)] [.bool, .int .i64] (
      .branch (.bin (.lt) (.var 10) (.un (.len) (.var 0))) (
        .obl [] (.bin (.and) (.bin (.le) (.kint .i64 (0)) (.var 10)) (.bin (.lt) (.var 10) (.un (.len) (.var 0)))) <|
        .obl [] (.bin (.and) (.bin (.le) (.kint .i64 (0)) (.var 10)) (.bin (.lt) (.var 10) (.un (.len) (.var 1)))) <|
        .branch (.bin (.ne) (.bin (.idx) (.var 0) (.var 10)) (.bin (.idx) (.var 1) (.var 10))) (
          .ret (.kbool false))
          (
          .again 0 [.var 9, .bin (.add .i64) (.var 10) (.kint .i64 (1))]))
        (
        .ret (.kbool true))))
def vc23 : VC :=
  .call 9 33 (.cons (.un (.cell 0) (.var 0)) (.cons (.un (.cell 0) (.var 1)) (.nil))) [] <|
  .call 15 33 (.cons (.un (.cell 1) (.var 0)) (.cons (.un (.cell 1) (.var 1)) (.nil))) [] <|
  .ret (.bin (.and) (.var 9) (.var 15))
def vc29 : VC :=
  .loop 4 [.kint .i64 (0)] [.int .i64] (
    .obl [(.bin (.lt) (.var 4) (.un (.len) (.var 0)), true)] (.bin (.and) (.bin (.le) (.kint .i64 (0)) (.var 4)) (.bin (.lt) (.var 4) (.un (.len) (.var 0)))) <|
    .branch (.bin (.and) (.bin (.lt) (.var 4) (.un (.len) (.var 0))) (.bin (.lt) (.bin (.idx) (.var 0) (.var 4)) (.var 1))) (
      .again 0 [.bin (.add .i64) (.var 4) (.kint .i64 (1))])
      (
      .obl [(.bin (.lt) (.var 4) (.un (.len) (.var 0)), true)] (.bin (.and) (.bin (.le) (.kint .i64 (0)) (.var 4)) (.bin (.lt) (.var 4) (.un (.len) (.var 0)))) <|
      .branch (.bin (.and) (.bin (.lt) (.var 4) (.un (.len) (.var 0))) (.bin (.eq) (.bin (.idx) (.var 0) (.var 4)) (.var 1))) (
        .ret (.var 0))
        (
        .obl [] (.bin (.and) (.bin (.le) (.kint .i64 (0)) (.kint .i64 (0))) (.bin (.and) (.bin (.le) (.kint .i64 (0)) (.var 4)) (.bin (.le) (.var 4) (.un (.len) (.var 0))))) <|
        .room [] (.bin (.cat) (.nil) (.bin (.drop) (.bin (.take) (.var 0) (.var 4)) (.kint .i64 (0)))) 8 <|
        .room [] (.bin (.cat) (.bin (.cat) (.nil) (.bin (.drop) (.bin (.take) (.var 0) (.var 4)) (.kint .i64 (0)))) (.cons (.var 1) (.nil))) 8 <|
        .obl [] (.bin (.and) (.bin (.le) (.kint .i64 (0)) (.var 4)) (.bin (.and) (.bin (.le) (.var 4) (.un (.len) (.var 0))) (.bin (.le) (.un (.len) (.var 0)) (.un (.len) (.var 0))))) <|
        .room [] (.bin (.cat) (.bin (.cat) (.bin (.cat) (.nil) (.bin (.drop) (.bin (.take) (.var 0) (.var 4)) (.kint .i64 (0)))) (.cons (.var 1) (.nil))) (.bin (.drop) (.bin (.take) (.var 0) (.un (.len) (.var 0))) (.var 4))) 8 <|
        .ret (.bin (.cat) (.bin (.cat) (.bin (.cat) (.nil) (.bin (.drop) (.bin (.take) (.var 0) (.var 4)) (.kint .i64 (0)))) (.cons (.var 1) (.nil))) (.bin (.drop) (.bin (.take) (.var 0) (.un (.len) (.var 0))) (.var 4))))))
def vc19 : VC :=
  .loop 5 [.nil, .kint .i64 (0)] [.list (.int .i64), .int .i64] (
    .branch (.bin (.lt) (.var 6) (.un (.len) (.un (.cell 0) (.var 0)))) (
      .obl [] (.bin (.and) (.bin (.le) (.kint .i64 (0)) (.var 6)) (.bin (.lt) (.var 6) (.un (.len) (.un (.cell 0) (.var 0))))) <|
      .call 18 29 (.cons (.var 5) (.cons (.bin (.idx) (.un (.cell 0) (.var 0)) (.var 6)) (.nil))) [] <|
      .again 0 [.var 18, .bin (.add .i64) (.var 6) (.kint .i64 (1))])
      (
      .loop 13 [.var 5, .kint .i64 (0)] [.list (.int .i64), .int .i64] (
        .branch (.bin (.lt) (.var 14) (.un (.len) (.un (.cell 1) (.var 0)))) (
          .obl [] (.bin (.and) (.bin (.le) (.kint .i64 (0)) (.var 14)) (.bin (.lt) (.var 14) (.un (.len) (.un (.cell 1) (.var 0))))) <|
          .call 26 29 (.cons (.var 13) (.cons (.bin (.idx) (.un (.cell 1) (.var 0)) (.var 14)) (.nil))) [] <|
          .again 0 [.var 26, .bin (.add .i64) (.var 14) (.kint .i64 (1))])
          (
          .ret (.var 13)))))
def vc10 : VC :=
  .loop 6 [.kint .i64 (0), .kint .i64 (0)] [.int .i64, .int .i64] (
    .branch (.bin (.lt) (.var 7) (.un (.len) (.un (.cell 0) (.var 0)))) (
      .obl [] (.bin (.and) (.bin (.le) (.kint .i64 (0)) (.var 7)) (.bin (.lt) (.var 7) (.un (.len) (.un (.cell 0) (.var 0))))) <|
      .call 19 15 (.cons (.var 1) (.cons (.bin (.idx) (.un (.cell 0) (.var 0)) (.var 7)) (.nil))) [] <|
      .branch (.var 19) (
        .again 0 [.bin (.add .i64) (.var 6) (.kint .i64 (1)), .bin (.add .i64) (.var 7) (.kint .i64 (1))])
        (
        .again 0 [.var 6, .bin (.add .i64) (.var 7) (.kint .i64 (1))]))
      (
      .ret (.bin (.gt) (.var 6) (.bin (.sub .i64) (.un (.len) (.un (.cell 0) (.var 0))) (.var 6)))))
def vc17 : VC :=
  .branch (.bin (.ne) (.un (.len) (.var 0)) (.un (.len) (.var 1))) (
    .ret (.kbool false))
    (
    .loop 9 [.kbool false, .kint .i64 (0)] [.bool, .int .i64] (
      .branch (.bin (.lt) (.var 10) (.un (.len) (.var 0))) (
        .obl [] (.bin (.and) (.bin (.le) (.kint .i64 (0)) (.var 10)) (.bin (.lt) (.var 10) (.un (.len) (.var 0)))) <|
        .obl [] (.bin (.and) (.bin (.le) (.kint .i64 (0)) (.var 10)) (.bin (.lt) (.var 10) (.un (.len) (.var 1)))) <|
        .branch (.bin (.ne) (.bin (.idx) (.var 0) (.var 10)) (.bin (.idx) (.var 1) (.var 10))) (
          .ret (.kbool false))
          (
          .again 0 [.var 9, .bin (.add .i64) (.var 10) (.kint .i64 (1))]))
        (
        .ret (.kbool true))))
def vc12 : VC :=
  .loop 6 [.kint .i64 (0), .kint .i64 (0)] [.int .i64, .int .i64] (
    .branch (.bin (.lt) (.var 7) (.un (.len) (.var 1))) (
      .loop 14 [.nil, .kint .i64 (1)] [.list (.int .i64), .int .i64] (
        .branch (.bin (.le) (.var 15) (.un (.len) (.var 1))) (
          .obl [] (.bin (.and) (.bin (.le) (.kint .i64 (0)) (.bin (.sub .i64) (.var 15) (.kint .i64 (1)))) (.bin (.lt) (.bin (.sub .i64) (.var 15) (.kint .i64 (1))) (.un (.len) (.var 1)))) <|
          .obl [] (.bin (.and) (.bin (.le) (.kint .i64 (0)) (.var 7)) (.bin (.lt) (.var 7) (.un (.len) (.var 1)))) <|
          .branch (.bin (.ge) (.bin (.idx) (.var 1) (.bin (.sub .i64) (.var 15) (.kint .i64 (1)))) (.bin (.idx) (.var 1) (.var 7))) (
            .room [] (.bin (.cat) (.var 14) (.cons (.var 15) (.nil))) 8 <|
            .again 0 [.bin (.cat) (.var 14) (.cons (.var 15) (.nil)), .bin (.add .i64) (.var 15) (.kint .i64 (1))])
            (
            .again 0 [.var 14, .bin (.add .i64) (.var 15) (.kint .i64 (1))]))
          (
          .call 22 10 (.cons (.un (.agg) (.cons (.un (.cell 0) (.var 0)) (.cons (.un (.cell 1) (.var 0)) (.nil)))) (.cons (.var 14) (.nil))) [] <|
          .obl [(.var 22, true)] (.bin (.and) (.bin (.le) (.kint .i64 (0)) (.var 7)) (.bin (.lt) (.var 7) (.un (.len) (.var 1)))) <|
          .branch (.bin (.and) (.var 22) (.bin (.gt) (.bin (.idx) (.var 1) (.var 7)) (.var 6))) (
            .obl [] (.bin (.and) (.bin (.le) (.kint .i64 (0)) (.var 7)) (.bin (.lt) (.var 7) (.un (.len) (.var 1)))) <|
            .again 1 [.bin (.idx) (.var 1) (.var 7), .bin (.add .i64) (.var 7) (.kint .i64 (1))])
            (
            .again 1 [.var 6, .bin (.add .i64) (.var 7) (.kint .i64 (1))]))))
      (
      .ret (.var 6)))
def vc13 : VC :=
  .call 6 26 (.cons (.un (.agg) (.cons (.cons (.kint .i64 (1)) (.cons (.kint .i64 (2)) (.cons (.kint .i64 (3)) (.nil)))) (.cons (.nil) (.nil)))) (.cons (.kint .i64 (4)) (.nil))) [] <|
  .call 14 20 (.cons (.un (.agg) (.cons (.cons (.kint .i64 (1)) (.cons (.kint .i64 (2)) (.cons (.kint .i64 (3)) (.nil)))) (.cons (.nil) (.nil)))) (.nil)) [] <|
  .call 18 9 (.cons (.un (.agg) (.cons (.cons (.kint .i64 (1)) (.cons (.kint .i64 (2)) (.cons (.kint .i64 (3)) (.nil)))) (.cons (.nil) (.nil)))) (.cons (.cons (.kint .i64 (1)) (.cons (.kint .i64 (3)) (.nil))) (.nil))) [(.var 14, true)] <|
  .call 23 9 (.cons (.un (.agg) (.cons (.cons (.kint .i64 (1)) (.cons (.kint .i64 (2)) (.cons (.kint .i64 (3)) (.nil)))) (.cons (.nil) (.nil)))) (.cons (.cons (.kint .i64 (1)) (.cons (.kint .i64 (4)) (.nil))) (.nil))) [(.bin (.and) (.var 14) (.var 18), true)] <|
  .call 39 11 (.cons (.un (.agg) (.cons (.cons (.kint .i64 (1)) (.cons (.kint .i64 (2)) (.cons (.kint .i64 (3)) (.nil)))) (.cons (.nil) (.nil)))) (.cons (.cons (.kint .i64 (5)) (.cons (.kint .i64 (3)) (.cons (.kint .i64 (9)) (.nil)))) (.nil))) [(.bin (.and) (.bin (.and) (.bin (.and) (.bin (.and) (.var 14) (.var 18)) (.un (.not) (.var 23))) (.bin (.eq) (.un (.cell 1) (.var 6)) (.kint .i64 (0)))) (.bin (.eq) (.un (.len) (.un (.cell 1) (.un (.cell 0) (.var 6)))) (.kint .i64 (1))), true)] <|
  .ret (.bin (.and) (.bin (.and) (.bin (.and) (.bin (.and) (.bin (.and) (.var 14) (.var 18)) (.un (.not) (.var 23))) (.bin (.eq) (.un (.cell 1) (.var 6)) (.kint .i64 (0)))) (.bin (.eq) (.un (.len) (.un (.cell 1) (.un (.cell 0) (.var 6)))) (.kint .i64 (1)))) (.bin (.eq) (.var 39) (.kint .i64 (5))))
def vc3 : VC :=
  .call 7 9 (.cons (.un (.agg) (.cons (.un (.cell 0) (.var 0)) (.cons (.un (.cell 1) (.var 0)) (.nil)))) (.cons (.var 1) (.nil))) [] <|
  .call 10 10 (.cons (.un (.agg) (.cons (.un (.cell 0) (.var 0)) (.cons (.un (.cell 1) (.var 0)) (.nil)))) (.cons (.var 1) (.nil))) [] <|
  .call 15 11 (.cons (.un (.agg) (.cons (.un (.cell 0) (.var 0)) (.cons (.un (.cell 1) (.var 0)) (.nil)))) (.cons (.var 2) (.nil))) [(.bin (.beq) (.var 7) (.var 10), true)] <|
  .call 18 12 (.cons (.un (.agg) (.cons (.un (.cell 0) (.var 0)) (.cons (.un (.cell 1) (.var 0)) (.nil)))) (.cons (.var 2) (.nil))) [(.bin (.beq) (.var 7) (.var 10), true)] <|
  .call 22 13 (.nil) [(.bin (.and) (.bin (.beq) (.var 7) (.var 10)) (.bin (.eq) (.var 15) (.var 18)), true)] <|
  .ret (.bin (.and) (.bin (.and) (.bin (.beq) (.var 7) (.var 10)) (.bin (.eq) (.var 15) (.var 18))) (.var 22))
def vc4 : VC :=
  .call 6 11 (.cons (.un (.agg) (.cons (.un (.cell 0) (.var 0)) (.cons (.un (.cell 1) (.var 0)) (.nil)))) (.cons (.var 1) (.nil))) [] <|
  .loop 11 [.nil, .nil, .kint .i64 (1)] [.list (.int .i64), .list (.int .i64), .int .i64] (
    .branch (.bin (.le) (.var 13) (.un (.len) (.var 1))) (
      .obl [] (.bin (.and) (.bin (.le) (.kint .i64 (0)) (.bin (.sub .i64) (.var 13) (.kint .i64 (1)))) (.bin (.lt) (.bin (.sub .i64) (.var 13) (.kint .i64 (1))) (.un (.len) (.var 1)))) <|
      .branch (.bin (.ge) (.bin (.idx) (.var 1) (.bin (.sub .i64) (.var 13) (.kint .i64 (1)))) (.var 6)) (
        .room [] (.bin (.cat) (.var 11) (.cons (.var 13) (.nil))) 8 <|
        .obl [] (.bin (.and) (.bin (.le) (.kint .i64 (0)) (.bin (.sub .i64) (.var 13) (.kint .i64 (1)))) (.bin (.lt) (.bin (.sub .i64) (.var 13) (.kint .i64 (1))) (.un (.len) (.var 1)))) <|
        .branch (.bin (.gt) (.bin (.idx) (.var 1) (.bin (.sub .i64) (.var 13) (.kint .i64 (1)))) (.var 6)) (
          .room [] (.bin (.cat) (.var 12) (.cons (.var 13) (.nil))) 8 <|
          .again 0 [.bin (.cat) (.var 11) (.cons (.var 13) (.nil)), .bin (.cat) (.var 12) (.cons (.var 13) (.nil)), .bin (.add .i64) (.var 13) (.kint .i64 (1))])
          (
          .again 0 [.bin (.cat) (.var 11) (.cons (.var 13) (.nil)), .var 12, .bin (.add .i64) (.var 13) (.kint .i64 (1))]))
        (
        .obl [] (.bin (.and) (.bin (.le) (.kint .i64 (0)) (.bin (.sub .i64) (.var 13) (.kint .i64 (1)))) (.bin (.lt) (.bin (.sub .i64) (.var 13) (.kint .i64 (1))) (.un (.len) (.var 1)))) <|
        .branch (.bin (.gt) (.bin (.idx) (.var 1) (.bin (.sub .i64) (.var 13) (.kint .i64 (1)))) (.var 6)) (
          .room [] (.bin (.cat) (.var 12) (.cons (.var 13) (.nil))) 8 <|
          .again 0 [.var 11, .bin (.cat) (.var 12) (.cons (.var 13) (.nil)), .bin (.add .i64) (.var 13) (.kint .i64 (1))])
          (
          .again 0 [.var 11, .var 12, .bin (.add .i64) (.var 13) (.kint .i64 (1))])))
      (
      .call 26 9 (.cons (.un (.agg) (.cons (.un (.cell 0) (.var 0)) (.cons (.un (.cell 1) (.var 0)) (.nil)))) (.cons (.var 11) (.nil))) [(.bin (.eq) (.var 6) (.kint .i64 (0)), false), (.bin (.ge) (.var 6) (.kint .i64 (0)), true)] <|
      .call 32 9 (.cons (.un (.agg) (.cons (.un (.cell 0) (.var 0)) (.cons (.un (.cell 1) (.var 0)) (.nil)))) (.cons (.var 12) (.nil))) [(.bin (.and) (.bin (.ge) (.var 6) (.kint .i64 (0))) (.bin (.or) (.bin (.eq) (.var 6) (.kint .i64 (0))) (.var 26)), true)] <|
      .call 36 13 (.nil) [(.bin (.and) (.bin (.and) (.bin (.ge) (.var 6) (.kint .i64 (0))) (.bin (.or) (.bin (.eq) (.var 6) (.kint .i64 (0))) (.var 26))) (.un (.not) (.var 32)), true)] <|
      .ret (.bin (.and) (.bin (.and) (.bin (.and) (.bin (.ge) (.var 6) (.kint .i64 (0))) (.bin (.or) (.bin (.eq) (.var 6) (.kint .i64 (0))) (.var 26))) (.un (.not) (.var 32))) (.var 36))))
def vc7 : VC :=
  .room [] (.bin (.cat) (.nil) (.var 2)) 8 <|
  .room [] (.bin (.cat) (.bin (.cat) (.nil) (.var 2)) (.var 2)) 8 <|
  .call 22 14 (.cons (.un (.agg) (.cons (.un (.cell 0) (.var 0)) (.cons (.un (.cell 1) (.var 0)) (.nil)))) (.cons (.un (.agg) (.cons (.un (.cell 0) (.var 1)) (.cons (.un (.cell 1) (.var 1)) (.nil)))) (.nil))) [] <|
  .call 25 14 (.cons (.un (.agg) (.cons (.un (.cell 0) (.var 1)) (.cons (.un (.cell 1) (.var 1)) (.nil)))) (.cons (.un (.agg) (.cons (.un (.cell 0) (.var 0)) (.cons (.un (.cell 1) (.var 0)) (.nil)))) (.nil))) [] <|
  .call 30 9 (.cons (.un (.agg) (.cons (.un (.cell 0) (.var 0)) (.cons (.un (.cell 1) (.var 0)) (.nil)))) (.cons (.var 2) (.nil))) [(.bin (.beq) (.var 22) (.var 25), true)] <|
  .call 33 9 (.cons (.un (.agg) (.cons (.un (.cell 0) (.var 0)) (.cons (.un (.cell 1) (.var 0)) (.nil)))) (.cons (.bin (.cat) (.bin (.cat) (.nil) (.var 2)) (.var 2)) (.nil))) [(.bin (.beq) (.var 22) (.var 25), true)] <|
  .call 39 9 (.cons (.un (.agg) (.cons (.un (.cell 0) (.var 0)) (.cons (.un (.cell 1) (.var 0)) (.nil)))) (.cons (.var 2) (.nil))) [(.bin (.and) (.bin (.beq) (.var 22) (.var 25)) (.bin (.beq) (.var 30) (.var 33)), true)] <|
  .call 42 9 (.cons (.un (.agg) (.cons (.un (.cell 0) (.var 0)) (.cons (.nil) (.nil)))) (.cons (.var 2) (.nil))) [(.bin (.and) (.bin (.beq) (.var 22) (.var 25)) (.bin (.beq) (.var 30) (.var 33)), true)] <|
  .call 48 11 (.cons (.un (.agg) (.cons (.un (.cell 0) (.var 0)) (.cons (.un (.cell 1) (.var 0)) (.nil)))) (.cons (.var 2) (.nil))) [(.bin (.and) (.bin (.and) (.bin (.beq) (.var 22) (.var 25)) (.bin (.beq) (.var 30) (.var 33))) (.bin (.beq) (.var 39) (.var 42)), true)] <|
  .call 51 11 (.cons (.un (.agg) (.cons (.un (.cell 0) (.var 0)) (.cons (.nil) (.nil)))) (.cons (.var 2) (.nil))) [(.bin (.and) (.bin (.and) (.bin (.beq) (.var 22) (.var 25)) (.bin (.beq) (.var 30) (.var 33))) (.bin (.beq) (.var 39) (.var 42)), true)] <|
  .call 55 13 (.nil) [(.bin (.and) (.bin (.and) (.bin (.and) (.bin (.beq) (.var 22) (.var 25)) (.bin (.beq) (.var 30) (.var 33))) (.bin (.beq) (.var 39) (.var 42))) (.bin (.eq) (.var 48) (.var 51)), true)] <|
  .ret (.bin (.and) (.bin (.and) (.bin (.and) (.bin (.and) (.bin (.beq) (.var 22) (.var 25)) (.bin (.beq) (.var 30) (.var 33))) (.bin (.beq) (.var 39) (.var 42))) (.bin (.eq) (.var 48) (.var 51))) (.var 55))
def vc8 : VC :=
  .call 7 18 (.cons (.un (.agg) (.cons (.un (.cell 0) (.var 0)) (.cons (.un (.cell 1) (.var 0)) (.nil)))) (.nil)) [] <|
  .call 9 19 (.cons (.un (.agg) (.cons (.un (.cell 0) (.var 0)) (.cons (.un (.cell 1) (.var 0)) (.nil)))) (.nil)) [] <|
  .call 10 17 (.cons (.var 7) (.cons (.var 9) (.nil))) [] <|
  .call 15 20 (.cons (.un (.agg) (.cons (.un (.cell 0) (.var 0)) (.cons (.un (.cell 1) (.var 0)) (.nil)))) (.nil)) [(.var 10, true)] <|
  .call 17 21 (.cons (.un (.agg) (.cons (.un (.cell 0) (.var 0)) (.cons (.un (.cell 1) (.var 0)) (.nil)))) (.nil)) [(.var 10, true)] <|
  .call 23 22 (.cons (.un (.agg) (.cons (.un (.cell 0) (.var 0)) (.cons (.un (.cell 1) (.var 0)) (.nil)))) (.cons (.un (.agg) (.cons (.un (.cell 0) (.var 1)) (.cons (.un (.cell 1) (.var 1)) (.nil)))) (.nil))) [(.bin (.and) (.var 10) (.bin (.beq) (.var 15) (.var 17)), true)] <|
  .call 26 23 (.cons (.un (.agg) (.cons (.un (.cell 0) (.var 0)) (.cons (.un (.cell 1) (.var 0)) (.nil)))) (.cons (.un (.agg) (.cons (.un (.cell 0) (.var 1)) (.cons (.un (.cell 1) (.var 1)) (.nil)))) (.nil))) [(.bin (.and) (.var 10) (.bin (.beq) (.var 15) (.var 17)), true)] <|
  .call 32 22 (.cons (.un (.agg) (.cons (.un (.cell 0) (.var 0)) (.cons (.un (.cell 1) (.var 0)) (.nil)))) (.cons (.un (.agg) (.cons (.un (.cell 0) (.var 0)) (.cons (.un (.cell 1) (.var 0)) (.nil)))) (.nil))) [(.bin (.and) (.bin (.and) (.var 10) (.bin (.beq) (.var 15) (.var 17))) (.bin (.beq) (.var 23) (.var 26)), true)] <|
  .call 37 16 (.cons (.un (.agg) (.cons (.un (.cell 0) (.var 0)) (.cons (.un (.cell 1) (.var 0)) (.nil)))) (.cons (.var 2) (.nil))) [(.bin (.and) (.bin (.and) (.bin (.and) (.var 10) (.bin (.beq) (.var 15) (.var 17))) (.bin (.beq) (.var 23) (.var 26))) (.var 32), true)] <|
  .call 41 15 (.cons (.un (.cell 0) (.var 0)) (.cons (.var 2) (.nil))) [(.bin (.and) (.bin (.and) (.bin (.and) (.var 10) (.bin (.beq) (.var 15) (.var 17))) (.bin (.beq) (.var 23) (.var 26))) (.var 32), true)] <|
  .call 45 13 (.nil) [(.bin (.and) (.bin (.and) (.bin (.and) (.bin (.and) (.var 10) (.bin (.beq) (.var 15) (.var 17))) (.bin (.beq) (.var 23) (.var 26))) (.var 32)) (.bin (.beq) (.var 37) (.var 41)), true)] <|
  .ret (.bin (.and) (.bin (.and) (.bin (.and) (.bin (.and) (.bin (.and) (.var 10) (.bin (.beq) (.var 15) (.var 17))) (.bin (.beq) (.var 23) (.var 26))) (.var 32)) (.bin (.beq) (.var 37) (.var 41))) (.var 45))
def vc6 : VC :=
  .call 15 14 (.cons (.un (.agg) (.cons (.un (.cell 0) (.var 0)) (.cons (.un (.cell 1) (.var 0)) (.nil)))) (.cons (.un (.agg) (.cons (.un (.cell 0) (.var 1)) (.cons (.un (.cell 1) (.var 1)) (.nil)))) (.nil))) [] <|
  .call 20 9 (.cons (.un (.agg) (.cons (.un (.cell 0) (.var 0)) (.cons (.un (.cell 1) (.var 0)) (.nil)))) (.cons (.un (.cell 0) (.var 2)) (.nil))) [(.un (.not) (.var 15), false)] <|
  .call 26 9 (.cons (.un (.agg) (.cons (.un (.cell 0) (.var 1)) (.cons (.un (.cell 1) (.var 1)) (.nil)))) (.cons (.un (.cell 1) (.var 2)) (.nil))) [(.bin (.or) (.un (.not) (.var 15)) (.un (.not) (.var 20)), false)] <|
  .branch (.bin (.or) (.bin (.or) (.un (.not) (.var 15)) (.un (.not) (.var 20))) (.un (.not) (.var 26))) (
    .call 29 13 (.nil) [] <|
    .ret (.var 29))
    (
    .loop 30 [.kbool false, .kint .i64 (1)] [.bool, .int .i64] (
      .branch (.bin (.le) (.var 31) (.kint .i64 (5))) (
        .call 36 15 (.cons (.un (.cell 0) (.var 2)) (.cons (.var 31) (.nil))) [] <|
        .call 40 15 (.cons (.un (.cell 1) (.var 2)) (.cons (.var 31) (.nil))) [] <|
        .call 49 16 (.cons (.un (.agg) (.cons (.un (.cell 0) (.var 0)) (.cons (.un (.cell 1) (.var 0)) (.nil)))) (.cons (.var 31) (.nil))) [(.bin (.and) (.var 36) (.var 40), true)] <|
        .call 54 16 (.cons (.un (.agg) (.cons (.un (.cell 0) (.var 1)) (.cons (.un (.cell 1) (.var 1)) (.nil)))) (.cons (.var 31) (.nil))) [(.bin (.and) (.bin (.and) (.var 36) (.var 40)) (.var 49), true)] <|
        .branch (.bin (.and) (.bin (.and) (.bin (.and) (.var 36) (.var 40)) (.var 49)) (.var 54)) (
          .call 56 13 (.nil) [] <|
          .ret (.var 56))
          (
          .again 0 [.var 30, .bin (.add .i64) (.var 31) (.kint .i64 (1))]))
        (
        .ret (.kbool false))))
def vc5 : VC :=
  .loop 6 [.kbool false, .kint .i64 (1)] [.bool, .int .i64] (
    .branch (.bin (.le) (.var 7) (.kint .i64 (5))) (
      .room [] (.bin (.cat) (.nil) (.var 1)) 8 <|
      .room [] (.bin (.cat) (.bin (.cat) (.nil) (.var 1)) (.cons (.var 7) (.nil))) 8 <|
      .call 22 9 (.cons (.un (.agg) (.cons (.un (.cell 0) (.var 0)) (.cons (.un (.cell 1) (.var 0)) (.nil)))) (.cons (.var 1) (.nil))) [] <|
      .call 26 9 (.cons (.un (.agg) (.cons (.un (.cell 0) (.var 0)) (.cons (.un (.cell 1) (.var 0)) (.nil)))) (.cons (.bin (.cat) (.bin (.cat) (.nil) (.var 1)) (.cons (.var 7) (.nil))) (.nil))) [(.var 22, true)] <|
      .branch (.bin (.and) (.var 22) (.un (.not) (.var 26))) (
        .ret (.kbool false))
        (
        .obl [(.bin (.le) (.var 7) (.un (.len) (.var 2)), true)] (.bin (.and) (.bin (.le) (.kint .i64 (0)) (.bin (.sub .i64) (.var 7) (.kint .i64 (1)))) (.bin (.lt) (.bin (.sub .i64) (.var 7) (.kint .i64 (1))) (.un (.len) (.var 2)))) <|
        .branch (.bin (.and) (.bin (.le) (.var 7) (.un (.len) (.var 2))) (.bin (.lt) (.bin (.idx) (.var 2) (.bin (.sub .i64) (.var 7) (.kint .i64 (1)))) (.kint .i64 (1099511627776)))) (
          .room [] (.bin (.cat) (.nil) (.var 2)) 8 <|
          .obl [] (.bin (.and) (.bin (.le) (.kint .i64 (0)) (.bin (.sub .i64) (.var 7) (.kint .i64 (1)))) (.bin (.lt) (.bin (.sub .i64) (.var 7) (.kint .i64 (1))) (.un (.len) (.bin (.cat) (.nil) (.var 2))))) <|
          .obl [] (.bin (.and) (.bin (.le) (.kint .i64 (0)) (.bin (.sub .i64) (.var 7) (.kint .i64 (1)))) (.bin (.lt) (.bin (.sub .i64) (.var 7) (.kint .i64 (1))) (.un (.len) (.bin (.cat) (.nil) (.var 2))))) <|
          .call 56 11 (.cons (.un (.agg) (.cons (.un (.cell 0) (.var 0)) (.cons (.un (.cell 1) (.var 0)) (.nil)))) (.cons (.bin (.cat) (.bin (.take) (.bin (.cat) (.nil) (.var 2)) (.bin (.sub .i64) (.var 7) (.kint .i64 (1)))) (.cons (.bin (.add .i64) (.bin (.idx) (.bin (.cat) (.nil) (.var 2)) (.bin (.sub .i64) (.var 7) (.kint .i64 (1)))) (.kint .i64 (1))) (.bin (.drop) (.bin (.drop) (.bin (.cat) (.nil) (.var 2)) (.bin (.sub .i64) (.var 7) (.kint .i64 (1)))) (.kint .i64 (1))))) (.nil))) [] <|
          .call 59 11 (.cons (.un (.agg) (.cons (.un (.cell 0) (.var 0)) (.cons (.un (.cell 1) (.var 0)) (.nil)))) (.cons (.var 2) (.nil))) [] <|
          .branch (.bin (.lt) (.var 56) (.var 59)) (
            .ret (.kbool false))
            (
            .again 0 [.var 6, .bin (.add .i64) (.var 7) (.kint .i64 (1))]))
          (
          .again 0 [.var 6, .bin (.add .i64) (.var 7) (.kint .i64 (1))])))
      (
      .call 10 13 (.nil) [] <|
      .ret (.var 10)))
end Go.Proofs.Ytcmejjgjkjiggaa
