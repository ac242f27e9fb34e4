/-
  Signatures, tables and conditions of the functions of this seat, as a program of ours printed them.
-/
import Derived.Test.YtkmgkdaedjdeeaaEngY
import Derived.Test.YtkmgkdaedjdeeaaProg
namespace Go.Proofs.Ytkmgkdaedjdeeaa
open Go Go.Eng Go.Proofs


def moreT : Ty := .agg (.cons (.int .i64) (.cons (.int .i64) (.cons (.int .i64) (.cons (.int .i64) (.cons (.int .i64) (.cons (.int .i64) (.cons (.int .i64) (.cons (.int .i64) (.cons (.int .i64) (.cons (.bool) (.cons (.int .i64) (.cons (.int .i64) (.cons (.int .i64) (.nil))))))))))))))
def s28 : Sig := ⟨[.int .i64, .int .i64, .int .i64], [(false, [(.bool, none)])]⟩
def tb28 : List (Nat × Sig) := (28, s28) :: []
def s27 : Sig := ⟨[.int .i64, .box (.ofL [.int .i64])], [(false, [(.bool, none)])]⟩
def tb27 : List (Nat × Sig) := (27, s27) :: tb28
def s25 : Sig := ⟨[resT, .int .i64], [(false, [(.bool, none)])]⟩
def tb25 : List (Nat × Sig) := (25, s25) :: tb27
def s22 : Sig := ⟨[resT, resT], [(true, resT.cells.map fun c => (c, none)), (false, [(.bool, none)])]⟩
def tb22 : List (Nat × Sig) := (22, s22) :: tb25
def s26 : Sig := ⟨[.int .i64, .int .i64], [(false, [(.int .i64, none)]), (false, [(.bool, none)])]⟩
def tb26 : List (Nat × Sig) := (26, s26) :: tb22
def s23 : Sig := ⟨[resT, resT], [(true, resT.cells.map fun c => (c, none)), (false, [(.bool, none)])]⟩
def tb23 : List (Nat × Sig) := (23, s23) :: tb26
def s15 : Sig := ⟨[resT, resT, resT], [(false, [(.bool, none)])]⟩
def tb15 : List (Nat × Sig) := (15, s15) :: tb23
def s24 : Sig := ⟨[allocT], [(false, [(.bool, none)])]⟩
def tb24 : List (Nat × Sig) := (24, s24) :: tb15
def s21 : Sig := ⟨[storeT, .int .i64], [(true, resT.cells.map fun c => (c, none))]⟩
def tb21 : List (Nat × Sig) := (21, s21) :: tb24
def s18 : Sig := ⟨[storeT, .int .i64], [(true, resT.cells.map fun c => (c, none))]⟩
def tb18 : List (Nat × Sig) := (18, s18) :: tb21
def s20 : Sig := ⟨[nodeT, .box (.ofL [.int .i64])], [(false, [(.bool, none)])]⟩
def tb20 : List (Nat × Sig) := (20, s20) :: tb18
def s19 : Sig := ⟨[.list nodeT, .fn 20 (.ofL [.box (.ofL [.int .i64])])], [(false, [(.int .i64, none)])]⟩
def tb19 : List (Nat × Sig) := (19, s19) :: tb20
def s13 : Sig := ⟨[storeT, .int .i64], [(false, [(.int .i64, none)])]⟩
def tb13 : List (Nat × Sig) := (13, s13) :: tb19
def s17 : Sig := ⟨[storeT, .int .i64], [(false, [(.int .i64, none)])]⟩
def tb17 : List (Nat × Sig) := (17, s17) :: tb13
def s14 : Sig := ⟨[storeT, .list (allocT), .int .i64], [(true, resT.cells.map fun c => (c, none)), (false, [(.bool, none)])]⟩
def tb14 : List (Nat × Sig) := (14, s14) :: tb17
def s8 : Sig := ⟨[storeT, .list (allocT), .int .i64, resT], [(false, [(.bool, none)])]⟩
def tb8 : List (Nat × Sig) := (8, s8) :: tb14
def s16 : Sig := ⟨[storeT, .list (allocT), .int .i64, resT], [(false, [(.int .i64, none)]), (false, [(.bool, none)])]⟩
def tb16 : List (Nat × Sig) := (16, s16) :: tb8
def s9 : Sig := ⟨[storeT, .list (allocT), .int .i64, resT], [(false, [(.bool, none)])]⟩
def tb9 : List (Nat × Sig) := (9, s9) :: tb16
def s10 : Sig := ⟨[storeT, .list (allocT), resT], [(false, [(.int .i64, none)]), (false, [(.bool, none)])]⟩
def tb10 : List (Nat × Sig) := (10, s10) :: tb9
def s11 : Sig := ⟨[storeT, .list (allocT), resT], [(false, [(.int .i64, none)]), (false, [(.bool, none)])]⟩
def tb11 : List (Nat × Sig) := (11, s11) :: tb10
def s12 : Sig := ⟨[storeT, .int .i64], [(false, [(.int .i64, none)])]⟩
def tb12 : List (Nat × Sig) := (12, s12) :: tb11
def s6 : Sig := ⟨[storeT], [(false, [(.bool, none)])]⟩
def tb6 : List (Nat × Sig) := (6, s6) :: tb12
def s7 : Sig := ⟨[], [(false, [(.bool, none)])]⟩
def tb7 : List (Nat × Sig) := (7, s7) :: tb6
def s3 : Sig := ⟨[storeT, .list (allocT), resT], [(false, [(.bool, none)])]⟩
def tb3 : List (Nat × Sig) := (3, s3) :: tb7
def s4 : Sig := ⟨[storeT, .list (allocT), moreT], [(false, [(.bool, none)])]⟩
def tb4 : List (Nat × Sig) := (4, s4) :: tb3
def s5 : Sig := ⟨[storeT, resT], [(false, [(.bool, none)])]⟩
def tb5 : List (Nat × Sig) := (5, s5) :: tb4
def vc28 : VC :=
  .ret (.bin (.and) (.bin (.ge) (.var 0) (.var 1)) (.bin (.le) (.var 0) (.var 2)))
def vc27 : VC :=
  .call 5 28 (.cons (.var 0) (.cons (.kint .i64 (0)) (.cons (.un (.cell 0) (.un (.agg) (.var 1))) (.nil)))) [] <|
  .ret (.var 5)
def vc25 : VC :=
  .call 10 27 (.cons (.un (.cell 0) (.var 0)) (.cons (.un (.cell 0) (.un (.fnc 27) (.cons (.un (.ptrc) (.cons (.var 1) (.nil))) (.nil)))) (.nil))) [] <|
  .call 15 27 (.cons (.un (.cell 1) (.var 0)) (.cons (.un (.cell 0) (.un (.fnc 27) (.cons (.un (.ptrc) (.cons (.var 1) (.nil))) (.nil)))) (.nil))) [(.var 10, true)] <|
  .ret (.bin (.and) (.var 10) (.var 15))
def vc22 : VC :=
  .call 7 25 (.cons (.un (.agg) (.cons (.un (.cell 0) (.var 0)) (.cons (.un (.cell 1) (.var 0)) (.nil)))) (.cons (.kint .i64 (1152921504606846976)) (.nil))) [] <|
  .call 11 25 (.cons (.un (.agg) (.cons (.un (.cell 0) (.var 1)) (.cons (.un (.cell 1) (.var 1)) (.nil)))) (.cons (.kint .i64 (1152921504606846976)) (.nil))) [(.un (.not) (.var 7), false)] <|
  .branch (.bin (.or) (.un (.not) (.var 7)) (.un (.not) (.var 11))) (
    .ret (.un (.tup) (.cons (.un (.agg) (.cons (.kint .i64 (0)) (.cons (.kint .i64 (0)) (.nil)))) (.cons (.kbool false) (.nil)))))
    (
    .call 28 25 (.cons (.un (.agg) (.cons (.bin (.add .i64) (.un (.cell 0) (.var 0)) (.un (.cell 0) (.var 1))) (.cons (.bin (.add .i64) (.un (.cell 1) (.var 0)) (.un (.cell 1) (.var 1))) (.nil)))) (.cons (.kint .i64 (1152921504606846976)) (.nil))) [] <|
    .branch (.un (.not) (.var 28)) (
      .ret (.un (.tup) (.cons (.un (.agg) (.cons (.kint .i64 (0)) (.cons (.kint .i64 (0)) (.nil)))) (.cons (.kbool false) (.nil)))))
      (
      .ret (.un (.tup) (.cons (.un (.agg) (.cons (.bin (.add .i64) (.un (.cell 0) (.var 0)) (.un (.cell 0) (.var 1))) (.cons (.bin (.add .i64) (.un (.cell 1) (.var 0)) (.un (.cell 1) (.var 1))) (.nil)))) (.cons (.kbool true) (.nil))))))
def vc26 : VC :=
  .branch (.bin (.or) (.bin (.or) (.bin (.or) (.bin (.or) (.bin (.lt) (.var 0) (.kint .i64 (0))) (.bin (.gt) (.var 0) (.kint .i64 (1152921504606846976)))) (.bin (.lt) (.var 1) (.kint .i64 (0)))) (.bin (.gt) (.var 1) (.kint .i64 (1152921504606846976)))) (.bin (.gt) (.var 0) (.bin (.sub .i64) (.kint .i64 (1152921504606846976)) (.var 1)))) (
    .ret (.un (.tup) (.cons (.kint .i64 (0)) (.cons (.kbool false) (.nil)))))
    (
    .ret (.un (.tup) (.cons (.bin (.add .i64) (.var 0) (.var 1)) (.cons (.kbool true) (.nil)))))
def vc23 : VC :=
  .call 10 26 (.cons (.un (.cell 0) (.var 0)) (.cons (.un (.cell 0) (.var 1)) (.nil))) [] <|
  .call 20 26 (.cons (.un (.cell 1) (.var 0)) (.cons (.un (.cell 1) (.var 1)) (.nil))) [] <|
  .branch (.bin (.or) (.un (.not) (.un (.cell 1) (.var 10))) (.un (.not) (.un (.cell 1) (.var 20)))) (
    .ret (.un (.tup) (.cons (.un (.agg) (.cons (.kint .i64 (0)) (.cons (.kint .i64 (0)) (.nil)))) (.cons (.kbool false) (.nil)))))
    (
    .ret (.un (.tup) (.cons (.un (.agg) (.cons (.un (.cell 0) (.var 10)) (.cons (.un (.cell 0) (.var 20)) (.nil)))) (.cons (.kbool true) (.nil)))))
def vc15 : VC :=
  .call 9 22 (.cons (.un (.agg) (.cons (.un (.cell 0) (.var 0)) (.cons (.un (.cell 1) (.var 0)) (.nil)))) (.cons (.un (.agg) (.cons (.un (.cell 0) (.var 1)) (.cons (.un (.cell 1) (.var 1)) (.nil)))) (.nil))) [] <|
  .ret (.bin (.and) (.bin (.and) (.un (.cell 1) (.var 9)) (.bin (.le) (.un (.cell 0) (.un (.cell 0) (.var 9))) (.un (.cell 0) (.var 2)))) (.bin (.le) (.un (.cell 1) (.un (.cell 0) (.var 9))) (.un (.cell 1) (.var 2))))
def vc24 : VC :=
  .ret (.bin (.ge) (.un (.cell 10) (.var 0)) (.kint .i64 (3)))
def vc21 : VC :=
  .loop 9 [.kint .i64 (0), .kint .i64 (0), .kint .i64 (0), .kint .i64 (0), .kint .i64 (0)] [.int .i64, .int .i64, .int .i64, .int .i64, .int .i64] (
    .branch (.bin (.lt) (.var 9) (.un (.len) (.un (.cell 5) (.var 0)))) (
      .obl [] (.bin (.and) (.bin (.le) (.kint .i64 (0)) (.var 9)) (.bin (.lt) (.var 9) (.un (.len) (.un (.cell 5) (.var 0))))) <|
      .call 25 24 (.cons (.un (.agg) (.cons (.un (.cell 0) (.bin (.idx) (.un (.cell 5) (.var 0)) (.var 9))) (.cons (.un (.cell 1) (.bin (.idx) (.un (.cell 5) (.var 0)) (.var 9))) (.cons (.un (.cell 2) (.bin (.idx) (.un (.cell 5) (.var 0)) (.var 9))) (.cons (.un (.cell 3) (.bin (.idx) (.un (.cell 5) (.var 0)) (.var 9))) (.cons (.un (.cell 4) (.bin (.idx) (.un (.cell 5) (.var 0)) (.var 9))) (.cons (.un (.cell 5) (.bin (.idx) (.un (.cell 5) (.var 0)) (.var 9))) (.cons (.un (.cell 6) (.bin (.idx) (.un (.cell 5) (.var 0)) (.var 9))) (.cons (.un (.cell 7) (.bin (.idx) (.un (.cell 5) (.var 0)) (.var 9))) (.cons (.un (.cell 8) (.bin (.idx) (.un (.cell 5) (.var 0)) (.var 9))) (.cons (.un (.cell 9) (.bin (.idx) (.un (.cell 5) (.var 0)) (.var 9))) (.cons (.un (.cell 10) (.bin (.idx) (.un (.cell 5) (.var 0)) (.var 9))) (.nil))))))))))))) (.nil)) [(.bin (.ne) (.un (.cell 5) (.bin (.idx) (.un (.cell 5) (.var 0)) (.var 9))) (.var 1), false)] <|
      .branch (.bin (.or) (.bin (.ne) (.un (.cell 5) (.bin (.idx) (.un (.cell 5) (.var 0)) (.var 9))) (.var 1)) (.var 25)) (
        .again 0 [.bin (.add .i64) (.var 9) (.kint .i64 (1)), .var 10, .var 11, .var 12, .var 13])
        (
        .call 31 22 (.cons (.un (.agg) (.cons (.var 10) (.cons (.var 11) (.nil)))) (.cons (.un (.agg) (.cons (.un (.cell 7) (.bin (.idx) (.un (.cell 5) (.var 0)) (.var 9))) (.cons (.un (.cell 8) (.bin (.idx) (.un (.cell 5) (.var 0)) (.var 9))) (.nil)))) (.nil))) [] <|
        .branch (.un (.not) (.un (.cell 1) (.var 31))) (
          .ret (.un (.agg) (.cons (.kint .i64 (1152921504606846976)) (.cons (.kint .i64 (1152921504606846976)) (.nil)))))
          (
          .again 0 [.bin (.add .i64) (.var 9) (.kint .i64 (1)), .un (.cell 0) (.un (.cell 0) (.var 31)), .un (.cell 1) (.un (.cell 0) (.var 31)), .var 12, .var 13])))
      (
      .ret (.un (.agg) (.cons (.var 10) (.cons (.var 11) (.nil))))))
def vc18 : VC :=
  .loop 8 [.kint .i64 (0), .kint .i64 (0), .kint .i64 (0)] [.int .i64, .int .i64, .int .i64] (
    .branch (.bin (.lt) (.var 8) (.un (.len) (.un (.cell 5) (.var 0)))) (
      .obl [] (.bin (.and) (.bin (.le) (.kint .i64 (0)) (.var 8)) (.bin (.lt) (.var 8) (.un (.len) (.un (.cell 5) (.var 0))))) <|
      .branch (.bin (.or) (.bin (.ne) (.un (.cell 5) (.bin (.idx) (.un (.cell 5) (.var 0)) (.var 8))) (.var 1)) (.bin (.ge) (.un (.cell 10) (.bin (.idx) (.un (.cell 5) (.var 0)) (.var 8))) (.kint .i64 (3)))) (
        .again 0 [.bin (.add .i64) (.var 8) (.kint .i64 (1)), .var 9, .var 10])
        (
        .call 35 23 (.cons (.un (.agg) (.cons (.var 9) (.cons (.var 10) (.nil)))) (.cons (.un (.agg) (.cons (.un (.cell 7) (.bin (.idx) (.un (.cell 5) (.var 0)) (.var 8))) (.cons (.un (.cell 8) (.bin (.idx) (.un (.cell 5) (.var 0)) (.var 8))) (.nil)))) (.nil))) [] <|
        .branch (.un (.not) (.un (.cell 1) (.var 35))) (
          .ret (.un (.agg) (.cons (.kint .i64 (1152921504606846976)) (.cons (.kint .i64 (1152921504606846976)) (.nil)))))
          (
          .again 0 [.bin (.add .i64) (.var 8) (.kint .i64 (1)), .un (.cell 0) (.un (.cell 0) (.var 35)), .un (.cell 1) (.un (.cell 0) (.var 35))])))
      (
      .ret (.un (.agg) (.cons (.var 9) (.cons (.var 10) (.nil))))))
def vc20 : VC :=
  .ret (.bin (.eq) (.un (.cell 0) (.var 0)) (.un (.cell 0) (.un (.agg) (.var 1))))
def vc19 : VC :=
  .loop 6 [.kint .i64 (0), .kint .i64 (0)] [.int .i64, .int .i64] (
    .branch (.bin (.lt) (.var 7) (.un (.len) (.var 0))) (
      .obl [] (.bin (.and) (.bin (.le) (.kint .i64 (0)) (.var 7)) (.bin (.lt) (.var 7) (.un (.len) (.var 0)))) <|
      .call 16 20 (.cons (.bin (.idx) (.var 0) (.var 7)) (.cons (.un (.cell 0) (.var 1)) (.nil))) [] <|
      .branch (.var 16) (
        .ret (.var 7))
        (
        .again 0 [.var 6, .bin (.add .i64) (.var 7) (.kint .i64 (1))]))
      (
      .ret (.kint .i64 (-1))))
def vc13 : VC :=
  .call 8 19 (.cons (.un (.cell 4) (.var 0)) (.cons (.un (.fnc 20) (.cons (.un (.ptrc) (.cons (.var 1) (.nil))) (.nil))) (.nil))) [] <|
  .ret (.var 8)
def vc17 : VC :=
  .loop 5 [.kint .i64 (0), .kint .i64 (0)] [.int .i64, .int .i64] (
    .branch (.bin (.lt) (.var 6) (.un (.len) (.un (.cell 4) (.var 0)))) (
      .obl [] (.bin (.and) (.bin (.le) (.kint .i64 (0)) (.var 6)) (.bin (.lt) (.var 6) (.un (.len) (.un (.cell 4) (.var 0))))) <|
      .branch (.bin (.eq) (.un (.cell 0) (.bin (.idx) (.un (.cell 4) (.var 0)) (.var 6))) (.var 1)) (
        .ret (.var 6))
        (
        .again 0 [.var 5, .bin (.add .i64) (.var 6) (.kint .i64 (1))]))
      (
      .ret (.kint .i64 (-1))))
def vc14 : VC :=
  .call 8 21 (.cons (.un (.agg) (.cons (.un (.cell 0) (.var 0)) (.cons (.un (.cell 1) (.var 0)) (.cons (.un (.cell 2) (.var 0)) (.cons (.un (.cell 3) (.var 0)) (.cons (.un (.cell 4) (.var 0)) (.cons (.un (.cell 5) (.var 0)) (.cons (.un (.cell 6) (.var 0)) (.cons (.un (.cell 7) (.var 0)) (.cons (.un (.cell 8) (.var 0)) (.nil))))))))))) (.cons (.var 2) (.nil))) [] <|
  .loop 14 [.kbool false, .kint .i64 (0), .un (.cell 0) (.var 8), .un (.cell 1) (.var 8), .kint .i64 (0), .kint .i64 (0)] [.bool, .int .i64, .int .i64, .int .i64, .int .i64, .int .i64] (
    .branch (.bin (.lt) (.var 15) (.un (.len) (.var 1))) (
      .obl [] (.bin (.and) (.bin (.le) (.kint .i64 (0)) (.var 15)) (.bin (.lt) (.var 15) (.un (.len) (.var 1)))) <|
      .branch (.bin (.ne) (.un (.cell 5) (.bin (.idx) (.var 1) (.var 15))) (.var 2)) (
        .again 0 [.var 14, .bin (.add .i64) (.var 15) (.kint .i64 (1)), .var 16, .var 17, .var 18, .var 19])
        (
        .call 33 22 (.cons (.un (.agg) (.cons (.var 16) (.cons (.var 17) (.nil)))) (.cons (.un (.agg) (.cons (.un (.cell 7) (.bin (.idx) (.var 1) (.var 15))) (.cons (.un (.cell 8) (.bin (.idx) (.var 1) (.var 15))) (.nil)))) (.nil))) [] <|
        .branch (.un (.not) (.un (.cell 1) (.var 33))) (
          .ret (.un (.tup) (.cons (.un (.agg) (.cons (.kint .i64 (0)) (.cons (.kint .i64 (0)) (.nil)))) (.cons (.kbool false) (.nil)))))
          (
          .again 0 [.var 14, .bin (.add .i64) (.var 15) (.kint .i64 (1)), .un (.cell 0) (.un (.cell 0) (.var 33)), .un (.cell 1) (.un (.cell 0) (.var 33)), .var 18, .var 19])))
      (
      .ret (.un (.tup) (.cons (.un (.agg) (.cons (.var 16) (.cons (.var 17) (.nil)))) (.cons (.kbool true) (.nil))))))
def vc8 : VC :=
  .call 9 13 (.cons (.un (.agg) (.cons (.un (.cell 0) (.var 0)) (.cons (.un (.cell 1) (.var 0)) (.cons (.un (.cell 2) (.var 0)) (.cons (.un (.cell 3) (.var 0)) (.cons (.un (.cell 4) (.var 0)) (.cons (.un (.cell 5) (.var 0)) (.cons (.un (.cell 6) (.var 0)) (.cons (.un (.cell 7) (.var 0)) (.cons (.un (.cell 8) (.var 0)) (.nil))))))))))) (.cons (.var 2) (.nil))) [] <|
  .obl [(.bin (.lt) (.var 9) (.kint .i64 (0)), false)] (.bin (.and) (.bin (.le) (.kint .i64 (0)) (.var 9)) (.bin (.lt) (.var 9) (.un (.len) (.un (.cell 4) (.var 0))))) <|
  .obl [(.bin (.or) (.bin (.lt) (.var 9) (.kint .i64 (0))) (.un (.not) (.un (.cell 3) (.bin (.idx) (.un (.cell 4) (.var 0)) (.var 9)))), false)] (.bin (.and) (.bin (.le) (.kint .i64 (0)) (.var 9)) (.bin (.lt) (.var 9) (.un (.len) (.un (.cell 4) (.var 0))))) <|
  .branch (.bin (.or) (.bin (.or) (.bin (.lt) (.var 9) (.kint .i64 (0))) (.un (.not) (.un (.cell 3) (.bin (.idx) (.un (.cell 4) (.var 0)) (.var 9))))) (.un (.cell 4) (.bin (.idx) (.un (.cell 4) (.var 0)) (.var 9)))) (
    .ret (.kbool false))
    (
    .call 33 14 (.cons (.un (.agg) (.cons (.un (.cell 0) (.var 0)) (.cons (.un (.cell 1) (.var 0)) (.cons (.un (.cell 2) (.var 0)) (.cons (.un (.cell 3) (.var 0)) (.cons (.un (.cell 4) (.var 0)) (.cons (.un (.cell 5) (.var 0)) (.cons (.un (.cell 6) (.var 0)) (.cons (.un (.cell 7) (.var 0)) (.cons (.un (.cell 8) (.var 0)) (.nil))))))))))) (.cons (.var 1) (.cons (.var 2) (.nil)))) [] <|
    .obl [(.un (.cell 1) (.var 33), true)] (.bin (.and) (.bin (.le) (.kint .i64 (0)) (.var 9)) (.bin (.lt) (.var 9) (.un (.len) (.un (.cell 4) (.var 0))))) <|
    .call 50 15 (.cons (.un (.agg) (.cons (.un (.cell 0) (.un (.cell 0) (.var 33))) (.cons (.un (.cell 1) (.un (.cell 0) (.var 33))) (.nil)))) (.cons (.un (.agg) (.cons (.un (.cell 0) (.var 3)) (.cons (.un (.cell 1) (.var 3)) (.nil)))) (.cons (.un (.part 1 2) (.bin (.idx) (.un (.cell 4) (.var 0)) (.var 9))) (.nil)))) [(.un (.cell 1) (.var 33), true)] <|
    .ret (.bin (.and) (.un (.cell 1) (.var 33)) (.var 50)))
def vc16 : VC :=
  .call 10 17 (.cons (.un (.agg) (.cons (.un (.cell 0) (.var 0)) (.cons (.un (.cell 1) (.var 0)) (.cons (.un (.cell 2) (.var 0)) (.cons (.un (.cell 3) (.var 0)) (.cons (.un (.cell 4) (.var 0)) (.cons (.un (.cell 5) (.var 0)) (.cons (.un (.cell 6) (.var 0)) (.cons (.un (.cell 7) (.var 0)) (.cons (.un (.cell 8) (.var 0)) (.nil))))))))))) (.cons (.var 2) (.nil))) [] <|
  .obl [(.bin (.lt) (.var 10) (.kint .i64 (0)), false)] (.bin (.and) (.bin (.le) (.kint .i64 (0)) (.var 10)) (.bin (.lt) (.var 10) (.un (.len) (.un (.cell 4) (.var 0))))) <|
  .obl [(.bin (.or) (.bin (.lt) (.var 10) (.kint .i64 (0))) (.un (.not) (.un (.cell 3) (.bin (.idx) (.un (.cell 4) (.var 0)) (.var 10)))), false)] (.bin (.and) (.bin (.le) (.kint .i64 (0)) (.var 10)) (.bin (.lt) (.var 10) (.un (.len) (.un (.cell 4) (.var 0))))) <|
  .branch (.bin (.or) (.bin (.or) (.bin (.lt) (.var 10) (.kint .i64 (0))) (.un (.not) (.un (.cell 3) (.bin (.idx) (.un (.cell 4) (.var 0)) (.var 10))))) (.un (.cell 4) (.bin (.idx) (.un (.cell 4) (.var 0)) (.var 10)))) (
    .ret (.un (.tup) (.cons (.kint .i64 (0)) (.cons (.kbool false) (.nil)))))
    (
    .call 33 18 (.cons (.un (.agg) (.cons (.un (.cell 0) (.var 0)) (.cons (.un (.cell 1) (.var 0)) (.cons (.un (.cell 2) (.var 0)) (.cons (.un (.cell 3) (.var 0)) (.cons (.un (.cell 4) (.var 0)) (.cons (.un (.cell 5) (.var 0)) (.cons (.un (.cell 6) (.var 0)) (.cons (.un (.cell 7) (.var 0)) (.cons (.un (.cell 8) (.var 0)) (.nil))))))))))) (.cons (.var 2) (.nil))) [] <|
    .loop 37 [.kint .i64 (0), .kbool false, .kint .i64 (0), .un (.cell 0) (.var 33), .un (.cell 1) (.var 33)] [.int .i64, .bool, .int .i64, .int .i64, .int .i64] (
      .branch (.bin (.lt) (.var 39) (.un (.len) (.var 1))) (
        .obl [] (.bin (.and) (.bin (.le) (.kint .i64 (0)) (.var 39)) (.bin (.lt) (.var 39) (.un (.len) (.var 1)))) <|
        .branch (.bin (.ne) (.un (.cell 5) (.bin (.idx) (.var 1) (.var 39))) (.var 2)) (
          .again 0 [.var 37, .var 38, .bin (.add .i64) (.var 39) (.kint .i64 (1)), .var 40, .var 41])
          (
          .obl [] (.bin (.and) (.bin (.le) (.kint .i64 (0)) (.var 39)) (.bin (.lt) (.var 39) (.un (.len) (.var 1)))) <|
          .call 59 23 (.cons (.un (.agg) (.cons (.var 40) (.cons (.var 41) (.nil)))) (.cons (.un (.part 7 2) (.bin (.idx) (.var 1) (.var 39))) (.nil))) [] <|
          .branch (.un (.not) (.un (.cell 1) (.var 59))) (
            .ret (.un (.tup) (.cons (.kint .i64 (0)) (.cons (.kbool false) (.nil)))))
            (
            .again 0 [.var 37, .var 38, .bin (.add .i64) (.var 39) (.kint .i64 (1)), .un (.cell 0) (.un (.cell 0) (.var 59)), .un (.cell 1) (.un (.cell 0) (.var 59))])))
        (
        .obl [] (.bin (.and) (.bin (.le) (.kint .i64 (0)) (.var 10)) (.bin (.lt) (.var 10) (.un (.len) (.un (.cell 4) (.var 0))))) <|
        .call 56 23 (.cons (.un (.agg) (.cons (.var 40) (.cons (.var 41) (.nil)))) (.cons (.un (.agg) (.cons (.un (.cell 0) (.var 3)) (.cons (.un (.cell 1) (.var 3)) (.nil)))) (.nil))) [] <|
        .branch (.bin (.or) (.bin (.or) (.un (.not) (.un (.cell 1) (.var 56))) (.bin (.gt) (.un (.cell 0) (.un (.cell 0) (.var 56))) (.un (.cell 0) (.un (.part 1 2) (.bin (.idx) (.un (.cell 4) (.var 0)) (.var 10)))))) (.bin (.gt) (.un (.cell 1) (.un (.cell 0) (.var 56))) (.un (.cell 1) (.un (.part 1 2) (.bin (.idx) (.un (.cell 4) (.var 0)) (.var 10)))))) (
          .ret (.un (.tup) (.cons (.kint .i64 (0)) (.cons (.kbool false) (.nil)))))
          (
          .ret (.un (.tup) (.cons (.bin (.add .i64) (.bin (.sub .i64) (.un (.cell 0) (.un (.part 1 2) (.bin (.idx) (.un (.cell 4) (.var 0)) (.var 10)))) (.un (.cell 0) (.un (.cell 0) (.var 56)))) (.bin (.sub .i64) (.un (.cell 1) (.un (.part 1 2) (.bin (.idx) (.un (.cell 4) (.var 0)) (.var 10)))) (.un (.cell 1) (.un (.cell 0) (.var 56))))) (.cons (.kbool true) (.nil))))))))
def vc9 : VC :=
  .call 11 16 (.cons (.un (.agg) (.cons (.un (.cell 0) (.var 0)) (.cons (.un (.cell 1) (.var 0)) (.cons (.un (.cell 2) (.var 0)) (.cons (.un (.cell 3) (.var 0)) (.cons (.un (.cell 4) (.var 0)) (.cons (.un (.cell 5) (.var 0)) (.cons (.un (.cell 6) (.var 0)) (.cons (.un (.cell 7) (.var 0)) (.cons (.un (.cell 8) (.var 0)) (.nil))))))))))) (.cons (.var 1) (.cons (.var 2) (.cons (.un (.agg) (.cons (.un (.cell 0) (.var 3)) (.cons (.un (.cell 1) (.var 3)) (.nil)))) (.nil))))) [] <|
  .ret (.un (.cell 1) (.var 11))
def vc10 : VC :=
  .loop 12 [.nilp, .kint .i64 (0)] [.ptr (.cons (.int .i64) (.cons (.int .i64) (.nil))), .int .i64] (
    .branch (.bin (.lt) (.var 13) (.un (.len) (.un (.cell 4) (.var 0)))) (
      .obl [] (.bin (.and) (.bin (.le) (.kint .i64 (0)) (.var 13)) (.bin (.lt) (.var 13) (.un (.len) (.un (.cell 4) (.var 0))))) <|
      .call 24 8 (.cons (.un (.agg) (.cons (.un (.cell 0) (.var 0)) (.cons (.un (.cell 1) (.var 0)) (.cons (.un (.cell 2) (.var 0)) (.cons (.un (.cell 3) (.var 0)) (.cons (.un (.cell 4) (.var 0)) (.cons (.un (.cell 5) (.var 0)) (.cons (.un (.cell 6) (.var 0)) (.cons (.un (.cell 7) (.var 0)) (.cons (.un (.cell 8) (.var 0)) (.nil))))))))))) (.cons (.var 1) (.cons (.un (.cell 0) (.bin (.idx) (.un (.cell 4) (.var 0)) (.var 13))) (.cons (.un (.agg) (.cons (.un (.cell 0) (.var 2)) (.cons (.un (.cell 1) (.var 2)) (.nil)))) (.nil))))) [] <|
      .branch (.un (.not) (.var 24)) (
        .again 0 [.var 12, .bin (.add .i64) (.var 13) (.kint .i64 (1))])
        (
        .call 31 13 (.cons (.un (.agg) (.cons (.un (.cell 0) (.var 0)) (.cons (.un (.cell 1) (.var 0)) (.cons (.un (.cell 2) (.var 0)) (.cons (.un (.cell 3) (.var 0)) (.cons (.un (.cell 4) (.var 0)) (.cons (.un (.cell 5) (.var 0)) (.cons (.un (.cell 6) (.var 0)) (.cons (.un (.cell 7) (.var 0)) (.cons (.un (.cell 8) (.var 0)) (.nil))))))))))) (.cons (.un (.cell 0) (.bin (.idx) (.un (.cell 4) (.var 0)) (.var 13))) (.nil))) [] <|
        .obl [] (.bin (.and) (.bin (.le) (.kint .i64 (0)) (.var 31)) (.bin (.lt) (.var 31) (.un (.len) (.un (.cell 4) (.var 0))))) <|
        .call 40 14 (.cons (.un (.agg) (.cons (.un (.cell 0) (.var 0)) (.cons (.un (.cell 1) (.var 0)) (.cons (.un (.cell 2) (.var 0)) (.cons (.un (.cell 3) (.var 0)) (.cons (.un (.cell 4) (.var 0)) (.cons (.un (.cell 5) (.var 0)) (.cons (.un (.cell 6) (.var 0)) (.cons (.un (.cell 7) (.var 0)) (.cons (.un (.cell 8) (.var 0)) (.nil))))))))))) (.cons (.var 1) (.cons (.un (.cell 0) (.bin (.idx) (.un (.cell 4) (.var 0)) (.var 31))) (.nil)))) [] <|
        .obl [(.un (.isnil) (.var 12), false)] (.un (.not) (.un (.isnil) (.var 12))) <|
        .obl [(.bin (.or) (.un (.isnil) (.var 12)) (.bin (.lt) (.bin (.add .i64) (.bin (.sub .i64) (.bin (.sub .i64) (.un (.cell 1) (.bin (.idx) (.un (.cell 4) (.var 0)) (.var 31))) (.un (.cell 0) (.un (.cell 0) (.var 40)))) (.un (.cell 0) (.var 2))) (.bin (.sub .i64) (.bin (.sub .i64) (.un (.cell 2) (.bin (.idx) (.un (.cell 4) (.var 0)) (.var 31))) (.un (.cell 1) (.un (.cell 0) (.var 40)))) (.un (.cell 1) (.var 2)))) (.un (.cell 1) (.un (.agg) (.var 12)))), false)] (.un (.not) (.un (.isnil) (.var 12))) <|
        .obl [(.bin (.eq) (.bin (.add .i64) (.bin (.sub .i64) (.bin (.sub .i64) (.un (.cell 1) (.bin (.idx) (.un (.cell 4) (.var 0)) (.var 31))) (.un (.cell 0) (.un (.cell 0) (.var 40)))) (.un (.cell 0) (.var 2))) (.bin (.sub .i64) (.bin (.sub .i64) (.un (.cell 2) (.bin (.idx) (.un (.cell 4) (.var 0)) (.var 31))) (.un (.cell 1) (.un (.cell 0) (.var 40)))) (.un (.cell 1) (.var 2)))) (.un (.cell 1) (.un (.agg) (.var 12))), true), (.bin (.or) (.un (.isnil) (.var 12)) (.bin (.lt) (.bin (.add .i64) (.bin (.sub .i64) (.bin (.sub .i64) (.un (.cell 1) (.bin (.idx) (.un (.cell 4) (.var 0)) (.var 31))) (.un (.cell 0) (.un (.cell 0) (.var 40)))) (.un (.cell 0) (.var 2))) (.bin (.sub .i64) (.bin (.sub .i64) (.un (.cell 2) (.bin (.idx) (.un (.cell 4) (.var 0)) (.var 31))) (.un (.cell 1) (.un (.cell 0) (.var 40)))) (.un (.cell 1) (.var 2)))) (.un (.cell 1) (.un (.agg) (.var 12)))), false)] (.un (.not) (.un (.isnil) (.var 12))) <|
        .branch (.bin (.or) (.bin (.or) (.un (.isnil) (.var 12)) (.bin (.lt) (.bin (.add .i64) (.bin (.sub .i64) (.bin (.sub .i64) (.un (.cell 1) (.bin (.idx) (.un (.cell 4) (.var 0)) (.var 31))) (.un (.cell 0) (.un (.cell 0) (.var 40)))) (.un (.cell 0) (.var 2))) (.bin (.sub .i64) (.bin (.sub .i64) (.un (.cell 2) (.bin (.idx) (.un (.cell 4) (.var 0)) (.var 31))) (.un (.cell 1) (.un (.cell 0) (.var 40)))) (.un (.cell 1) (.var 2)))) (.un (.cell 1) (.un (.agg) (.var 12))))) (.bin (.and) (.bin (.eq) (.bin (.add .i64) (.bin (.sub .i64) (.bin (.sub .i64) (.un (.cell 1) (.bin (.idx) (.un (.cell 4) (.var 0)) (.var 31))) (.un (.cell 0) (.un (.cell 0) (.var 40)))) (.un (.cell 0) (.var 2))) (.bin (.sub .i64) (.bin (.sub .i64) (.un (.cell 2) (.bin (.idx) (.un (.cell 4) (.var 0)) (.var 31))) (.un (.cell 1) (.un (.cell 0) (.var 40)))) (.un (.cell 1) (.var 2)))) (.un (.cell 1) (.un (.agg) (.var 12)))) (.bin (.lt) (.un (.cell 0) (.bin (.idx) (.un (.cell 4) (.var 0)) (.var 31))) (.un (.cell 0) (.un (.agg) (.var 12)))))) (
          .again 0 [.un (.ptrc) (.cons (.un (.cell 0) (.bin (.idx) (.un (.cell 4) (.var 0)) (.var 31))) (.cons (.bin (.add .i64) (.bin (.sub .i64) (.bin (.sub .i64) (.un (.cell 1) (.bin (.idx) (.un (.cell 4) (.var 0)) (.var 31))) (.un (.cell 0) (.un (.cell 0) (.var 40)))) (.un (.cell 0) (.var 2))) (.bin (.sub .i64) (.bin (.sub .i64) (.un (.cell 2) (.bin (.idx) (.un (.cell 4) (.var 0)) (.var 31))) (.un (.cell 1) (.un (.cell 0) (.var 40)))) (.un (.cell 1) (.var 2)))) (.nil))), .bin (.add .i64) (.var 13) (.kint .i64 (1))])
          (
          .again 0 [.var 12, .bin (.add .i64) (.var 13) (.kint .i64 (1))])))
      (
      .branch (.un (.isnil) (.var 12)) (
        .ret (.un (.tup) (.cons (.kint .i64 (0)) (.cons (.kbool false) (.nil)))))
        (
        .obl [] (.un (.not) (.un (.isnil) (.var 12))) <|
        .ret (.un (.tup) (.cons (.un (.cell 0) (.un (.agg) (.var 12))) (.cons (.kbool true) (.nil)))))))
def vc11 : VC :=
  .loop 11 [.kint .i64 (0), .kint .i64 (0), .kbool false, .kint .i64 (0)] [.int .i64, .int .i64, .bool, .int .i64] (
    .branch (.bin (.lt) (.var 14) (.un (.len) (.un (.cell 4) (.var 0)))) (
      .obl [] (.bin (.and) (.bin (.le) (.kint .i64 (0)) (.var 14)) (.bin (.lt) (.var 14) (.un (.len) (.un (.cell 4) (.var 0))))) <|
      .call 31 16 (.cons (.un (.agg) (.cons (.un (.cell 0) (.var 0)) (.cons (.un (.cell 1) (.var 0)) (.cons (.un (.cell 2) (.var 0)) (.cons (.un (.cell 3) (.var 0)) (.cons (.un (.cell 4) (.var 0)) (.cons (.un (.cell 5) (.var 0)) (.cons (.un (.cell 6) (.var 0)) (.cons (.un (.cell 7) (.var 0)) (.cons (.un (.cell 8) (.var 0)) (.nil))))))))))) (.cons (.var 1) (.cons (.un (.cell 0) (.bin (.idx) (.un (.cell 4) (.var 0)) (.var 14))) (.cons (.un (.agg) (.cons (.un (.cell 0) (.var 2)) (.cons (.un (.cell 1) (.var 2)) (.nil)))) (.nil))))) [] <|
      .branch (.un (.not) (.un (.cell 1) (.var 31))) (
        .again 0 [.var 11, .var 12, .var 13, .bin (.add .i64) (.var 14) (.kint .i64 (1))])
        (
        .branch (.bin (.or) (.bin (.or) (.un (.not) (.var 13)) (.bin (.lt) (.un (.cell 0) (.var 31)) (.var 12))) (.bin (.and) (.bin (.eq) (.un (.cell 0) (.var 31)) (.var 12)) (.bin (.lt) (.un (.cell 0) (.bin (.idx) (.un (.cell 4) (.var 0)) (.var 14))) (.var 11)))) (
          .again 0 [.un (.cell 0) (.bin (.idx) (.un (.cell 4) (.var 0)) (.var 14)), .un (.cell 0) (.var 31), .kbool true, .bin (.add .i64) (.var 14) (.kint .i64 (1))])
          (
          .again 0 [.var 11, .var 12, .var 13, .bin (.add .i64) (.var 14) (.kint .i64 (1))])))
      (
      .ret (.un (.tup) (.cons (.var 11) (.cons (.var 13) (.nil))))))
def vc12 : VC :=
  .call 8 17 (.cons (.un (.agg) (.cons (.un (.cell 0) (.var 0)) (.cons (.un (.cell 1) (.var 0)) (.cons (.un (.cell 2) (.var 0)) (.cons (.un (.cell 3) (.var 0)) (.cons (.un (.cell 4) (.var 0)) (.cons (.un (.cell 5) (.var 0)) (.cons (.un (.cell 6) (.var 0)) (.cons (.un (.cell 7) (.var 0)) (.cons (.un (.cell 8) (.var 0)) (.nil))))))))))) (.cons (.var 1) (.nil))) [] <|
  .obl [] (.bin (.and) (.bin (.le) (.kint .i64 (0)) (.var 8)) (.bin (.lt) (.var 8) (.un (.len) (.un (.cell 4) (.var 0))))) <|
  .call 15 18 (.cons (.un (.agg) (.cons (.un (.cell 0) (.var 0)) (.cons (.un (.cell 1) (.var 0)) (.cons (.un (.cell 2) (.var 0)) (.cons (.un (.cell 3) (.var 0)) (.cons (.un (.cell 4) (.var 0)) (.cons (.un (.cell 5) (.var 0)) (.cons (.un (.cell 6) (.var 0)) (.cons (.un (.cell 7) (.var 0)) (.cons (.un (.cell 8) (.var 0)) (.nil))))))))))) (.cons (.var 1) (.nil))) [] <|
  .ret (.bin (.add .i64) (.bin (.sub .i64) (.un (.cell 1) (.bin (.idx) (.un (.cell 4) (.var 0)) (.var 8))) (.un (.cell 0) (.var 15))) (.bin (.sub .i64) (.un (.cell 2) (.bin (.idx) (.un (.cell 4) (.var 0)) (.var 8))) (.un (.cell 1) (.var 15))))
def vc6 : VC :=
  .loop 4 [.kbool false, .kint .i64 (0)] [.bool, .int .i64] (
    .branch (.bin (.lt) (.var 5) (.un (.len) (.un (.cell 4) (.var 0)))) (
      .obl [] (.bin (.and) (.bin (.le) (.kint .i64 (0)) (.var 5)) (.bin (.lt) (.var 5) (.un (.len) (.un (.cell 4) (.var 0))))) <|
      .branch (.bin (.or) (.bin (.gt) (.un (.cell 0) (.un (.part 1 2) (.bin (.idx) (.un (.cell 4) (.var 0)) (.var 5)))) (.kint .i64 (2305843009213693952))) (.bin (.gt) (.un (.cell 1) (.un (.part 1 2) (.bin (.idx) (.un (.cell 4) (.var 0)) (.var 5)))) (.kint .i64 (2305843009213693952)))) (
        .ret (.kbool false))
        (
        .again 0 [.var 4, .bin (.add .i64) (.var 5) (.kint .i64 (1))]))
      (
      .ret (.kbool true)))
def vc7 : VC :=
  .call 17 10 (.cons (.un (.agg) (.cons (.kint .i64 (0)) (.cons (.kint .i64 (0)) (.cons (.nil) (.cons (.nil) (.cons (.cons (.un (.agg) (.cons (.kint .i64 (1)) (.cons (.kint .i64 (100)) (.cons (.kint .i64 (50)) (.cons (.kbool true) (.cons (.kbool false) (.cons (.kint .i64 (0)) (.cons (.kint .i64 (0)) (.cons (.kint .i64 (0)) (.nil)))))))))) (.cons (.un (.agg) (.cons (.kint .i64 (2)) (.cons (.kint .i64 (60)) (.cons (.kint .i64 (50)) (.cons (.kbool true) (.cons (.kbool false) (.cons (.kint .i64 (0)) (.cons (.kint .i64 (0)) (.cons (.kint .i64 (0)) (.nil)))))))))) (.nil))) (.cons (.nil) (.cons (.nil) (.cons (.nil) (.cons (.nil) (.nil))))))))))) (.cons (.nil) (.cons (.un (.agg) (.cons (.kint .i64 (50)) (.cons (.kint .i64 (1)) (.nil)))) (.nil)))) [] <|
  .call 25 10 (.cons (.un (.agg) (.cons (.kint .i64 (0)) (.cons (.kint .i64 (0)) (.cons (.nil) (.cons (.nil) (.cons (.cons (.un (.agg) (.cons (.kint .i64 (1)) (.cons (.kint .i64 (100)) (.cons (.kint .i64 (50)) (.cons (.kbool true) (.cons (.kbool false) (.cons (.kint .i64 (0)) (.cons (.kint .i64 (0)) (.cons (.kint .i64 (0)) (.nil)))))))))) (.cons (.un (.agg) (.cons (.kint .i64 (2)) (.cons (.kint .i64 (60)) (.cons (.kint .i64 (50)) (.cons (.kbool true) (.cons (.kbool false) (.cons (.kint .i64 (0)) (.cons (.kint .i64 (0)) (.cons (.kint .i64 (0)) (.nil)))))))))) (.nil))) (.cons (.nil) (.cons (.nil) (.cons (.nil) (.cons (.nil) (.nil))))))))))) (.cons (.nil) (.cons (.un (.agg) (.cons (.kint .i64 (80)) (.cons (.kint .i64 (1)) (.nil)))) (.nil)))) [] <|
  .call 33 10 (.cons (.un (.agg) (.cons (.kint .i64 (0)) (.cons (.kint .i64 (0)) (.cons (.nil) (.cons (.nil) (.cons (.cons (.un (.agg) (.cons (.kint .i64 (1)) (.cons (.kint .i64 (100)) (.cons (.kint .i64 (50)) (.cons (.kbool true) (.cons (.kbool false) (.cons (.kint .i64 (0)) (.cons (.kint .i64 (0)) (.cons (.kint .i64 (0)) (.nil)))))))))) (.cons (.un (.agg) (.cons (.kint .i64 (2)) (.cons (.kint .i64 (60)) (.cons (.kint .i64 (50)) (.cons (.kbool true) (.cons (.kbool false) (.cons (.kint .i64 (0)) (.cons (.kint .i64 (0)) (.cons (.kint .i64 (0)) (.nil)))))))))) (.nil))) (.cons (.nil) (.cons (.nil) (.cons (.nil) (.cons (.nil) (.nil))))))))))) (.cons (.nil) (.cons (.un (.agg) (.cons (.kint .i64 (101)) (.cons (.kint .i64 (1)) (.nil)))) (.nil)))) [] <|
  .ret (.bin (.and) (.bin (.and) (.bin (.and) (.bin (.and) (.bin (.eq) (.un (.cell 0) (.var 17)) (.kint .i64 (2))) (.un (.cell 1) (.var 17))) (.bin (.eq) (.un (.cell 0) (.var 25)) (.kint .i64 (1)))) (.un (.cell 1) (.var 25))) (.un (.not) (.un (.cell 1) (.var 33))))
def vc3 : VC :=
  .call 7 6 (.cons (.un (.agg) (.cons (.un (.cell 0) (.var 0)) (.cons (.un (.cell 1) (.var 0)) (.cons (.un (.cell 2) (.var 0)) (.cons (.un (.cell 3) (.var 0)) (.cons (.un (.cell 4) (.var 0)) (.cons (.un (.cell 5) (.var 0)) (.cons (.un (.cell 6) (.var 0)) (.cons (.un (.cell 7) (.var 0)) (.cons (.un (.cell 8) (.var 0)) (.nil))))))))))) (.nil)) [] <|
  .branch (.un (.not) (.var 7)) (
    .call 11 7 (.nil) [] <|
    .ret (.var 11))
    (
    .loop 12 [.kbool false, .kint .i64 (-1)] [.bool, .int .i64] (
      .branch (.bin (.le) (.var 13) (.kint .i64 (5))) (
        .call 20 8 (.cons (.un (.agg) (.cons (.un (.cell 0) (.var 0)) (.cons (.un (.cell 1) (.var 0)) (.cons (.un (.cell 2) (.var 0)) (.cons (.un (.cell 3) (.var 0)) (.cons (.un (.cell 4) (.var 0)) (.cons (.un (.cell 5) (.var 0)) (.cons (.un (.cell 6) (.var 0)) (.cons (.un (.cell 7) (.var 0)) (.cons (.un (.cell 8) (.var 0)) (.nil))))))))))) (.cons (.var 1) (.cons (.var 13) (.cons (.un (.agg) (.cons (.un (.cell 0) (.var 2)) (.cons (.un (.cell 1) (.var 2)) (.nil)))) (.nil))))) [] <|
        .call 25 9 (.cons (.un (.agg) (.cons (.un (.cell 0) (.var 0)) (.cons (.un (.cell 1) (.var 0)) (.cons (.un (.cell 2) (.var 0)) (.cons (.un (.cell 3) (.var 0)) (.cons (.un (.cell 4) (.var 0)) (.cons (.un (.cell 5) (.var 0)) (.cons (.un (.cell 6) (.var 0)) (.cons (.un (.cell 7) (.var 0)) (.cons (.un (.cell 8) (.var 0)) (.nil))))))))))) (.cons (.var 1) (.cons (.var 13) (.cons (.un (.agg) (.cons (.un (.cell 0) (.var 2)) (.cons (.un (.cell 1) (.var 2)) (.nil)))) (.nil))))) [] <|
        .branch (.un (.not) (.bin (.beq) (.var 20) (.var 25))) (
          .ret (.kbool false))
          (
          .again 0 [.var 12, .bin (.add .i64) (.var 13) (.kint .i64 (1))]))
        (
        .call 19 10 (.cons (.un (.agg) (.cons (.un (.cell 0) (.var 0)) (.cons (.un (.cell 1) (.var 0)) (.cons (.un (.cell 2) (.var 0)) (.cons (.un (.cell 3) (.var 0)) (.cons (.un (.cell 4) (.var 0)) (.cons (.un (.cell 5) (.var 0)) (.cons (.un (.cell 6) (.var 0)) (.cons (.un (.cell 7) (.var 0)) (.cons (.un (.cell 8) (.var 0)) (.nil))))))))))) (.cons (.var 1) (.cons (.un (.agg) (.cons (.un (.cell 0) (.var 2)) (.cons (.un (.cell 1) (.var 2)) (.nil)))) (.nil)))) [] <|
        .call 28 11 (.cons (.un (.agg) (.cons (.un (.cell 0) (.var 0)) (.cons (.un (.cell 1) (.var 0)) (.cons (.un (.cell 2) (.var 0)) (.cons (.un (.cell 3) (.var 0)) (.cons (.un (.cell 4) (.var 0)) (.cons (.un (.cell 5) (.var 0)) (.cons (.un (.cell 6) (.var 0)) (.cons (.un (.cell 7) (.var 0)) (.cons (.un (.cell 8) (.var 0)) (.nil))))))))))) (.cons (.var 1) (.cons (.un (.agg) (.cons (.un (.cell 0) (.var 2)) (.cons (.un (.cell 1) (.var 2)) (.nil)))) (.nil)))) [] <|
        .call 43 7 (.nil) [(.bin (.and) (.bin (.eq) (.un (.cell 0) (.var 19)) (.un (.cell 0) (.var 28))) (.bin (.beq) (.un (.cell 1) (.var 19)) (.un (.cell 1) (.var 28))), true)] <|
        .ret (.bin (.and) (.bin (.and) (.bin (.eq) (.un (.cell 0) (.var 19)) (.un (.cell 0) (.var 28))) (.bin (.beq) (.un (.cell 1) (.var 19)) (.un (.cell 1) (.var 28)))) (.var 43)))))
def vc4 : VC :=
  .call 15 6 (.cons (.un (.agg) (.cons (.un (.cell 0) (.var 0)) (.cons (.un (.cell 1) (.var 0)) (.cons (.un (.cell 2) (.var 0)) (.cons (.un (.cell 3) (.var 0)) (.cons (.un (.cell 4) (.var 0)) (.cons (.un (.cell 5) (.var 0)) (.cons (.un (.cell 6) (.var 0)) (.cons (.un (.cell 7) (.var 0)) (.cons (.un (.cell 8) (.var 0)) (.nil))))))))))) (.nil)) [] <|
  .branch (.bin (.or) (.bin (.or) (.un (.not) (.var 15)) (.bin (.lt) (.un (.cell 7) (.var 2)) (.kint .i64 (0)))) (.bin (.lt) (.un (.cell 8) (.var 2)) (.kint .i64 (0)))) (
    .call 31 7 (.nil) [] <|
    .ret (.var 31))
    (
    .room [] (.bin (.cat) (.nil) (.var 1)) 88 <|
    .room [] (.bin (.cat) (.bin (.cat) (.nil) (.var 1)) (.cons (.un (.agg) (.cons (.un (.cell 0) (.var 2)) (.cons (.un (.cell 1) (.var 2)) (.cons (.un (.cell 2) (.var 2)) (.cons (.un (.cell 3) (.var 2)) (.cons (.un (.cell 4) (.var 2)) (.cons (.un (.cell 5) (.var 2)) (.cons (.un (.cell 6) (.var 2)) (.cons (.un (.cell 7) (.var 2)) (.cons (.un (.cell 8) (.var 2)) (.cons (.un (.cell 9) (.var 2)) (.cons (.un (.cell 10) (.var 2)) (.nil))))))))))))) (.nil))) 88 <|
    .loop 42 [.kbool false, .kint .i64 (0)] [.bool, .int .i64] (
      .branch (.bin (.le) (.var 43) (.kint .i64 (5))) (
        .call 50 8 (.cons (.un (.agg) (.cons (.un (.cell 0) (.var 0)) (.cons (.un (.cell 1) (.var 0)) (.cons (.un (.cell 2) (.var 0)) (.cons (.un (.cell 3) (.var 0)) (.cons (.un (.cell 4) (.var 0)) (.cons (.un (.cell 5) (.var 0)) (.cons (.un (.cell 6) (.var 0)) (.cons (.un (.cell 7) (.var 0)) (.cons (.un (.cell 8) (.var 0)) (.nil))))))))))) (.cons (.bin (.cat) (.bin (.cat) (.nil) (.var 1)) (.cons (.un (.agg) (.cons (.un (.cell 0) (.var 2)) (.cons (.un (.cell 1) (.var 2)) (.cons (.un (.cell 2) (.var 2)) (.cons (.un (.cell 3) (.var 2)) (.cons (.un (.cell 4) (.var 2)) (.cons (.un (.cell 5) (.var 2)) (.cons (.un (.cell 6) (.var 2)) (.cons (.un (.cell 7) (.var 2)) (.cons (.un (.cell 8) (.var 2)) (.cons (.un (.cell 9) (.var 2)) (.cons (.un (.cell 10) (.var 2)) (.nil))))))))))))) (.nil))) (.cons (.var 43) (.cons (.un (.agg) (.cons (.un (.cell 11) (.var 2)) (.cons (.un (.cell 12) (.var 2)) (.nil)))) (.nil))))) [] <|
        .call 56 8 (.cons (.un (.agg) (.cons (.un (.cell 0) (.var 0)) (.cons (.un (.cell 1) (.var 0)) (.cons (.un (.cell 2) (.var 0)) (.cons (.un (.cell 3) (.var 0)) (.cons (.un (.cell 4) (.var 0)) (.cons (.un (.cell 5) (.var 0)) (.cons (.un (.cell 6) (.var 0)) (.cons (.un (.cell 7) (.var 0)) (.cons (.un (.cell 8) (.var 0)) (.nil))))))))))) (.cons (.var 1) (.cons (.var 43) (.cons (.un (.agg) (.cons (.un (.cell 11) (.var 2)) (.cons (.un (.cell 12) (.var 2)) (.nil)))) (.nil))))) [(.var 50, true)] <|
        .branch (.bin (.and) (.var 50) (.un (.not) (.var 56))) (
          .ret (.kbool false))
          (
          .branch (.bin (.and) (.bin (.lt) (.un (.cell 11) (.var 2)) (.kint .i64 (1152921504606846976))) (.bin (.ge) (.un (.cell 11) (.var 2)) (.kint .i64 (0)))) (
            .call 83 8 (.cons (.un (.agg) (.cons (.un (.cell 0) (.var 0)) (.cons (.un (.cell 1) (.var 0)) (.cons (.un (.cell 2) (.var 0)) (.cons (.un (.cell 3) (.var 0)) (.cons (.un (.cell 4) (.var 0)) (.cons (.un (.cell 5) (.var 0)) (.cons (.un (.cell 6) (.var 0)) (.cons (.un (.cell 7) (.var 0)) (.cons (.un (.cell 8) (.var 0)) (.nil))))))))))) (.cons (.var 1) (.cons (.var 43) (.cons (.un (.agg) (.cons (.bin (.add .i64) (.un (.cell 11) (.var 2)) (.kint .i64 (1))) (.cons (.un (.cell 12) (.var 2)) (.nil)))) (.nil))))) [] <|
            .call 96 8 (.cons (.un (.agg) (.cons (.un (.cell 0) (.var 0)) (.cons (.un (.cell 1) (.var 0)) (.cons (.un (.cell 2) (.var 0)) (.cons (.un (.cell 3) (.var 0)) (.cons (.un (.cell 4) (.var 0)) (.cons (.un (.cell 5) (.var 0)) (.cons (.un (.cell 6) (.var 0)) (.cons (.un (.cell 7) (.var 0)) (.cons (.un (.cell 8) (.var 0)) (.nil))))))))))) (.cons (.var 1) (.cons (.var 43) (.cons (.un (.agg) (.cons (.un (.cell 11) (.var 2)) (.cons (.un (.cell 12) (.var 2)) (.nil)))) (.nil))))) [(.bin (.and) (.var 83) (.bin (.gt) (.bin (.add .i64) (.un (.cell 11) (.var 2)) (.kint .i64 (1))) (.un (.cell 11) (.var 2))), true)] <|
            .branch (.bin (.and) (.bin (.and) (.var 83) (.bin (.gt) (.bin (.add .i64) (.un (.cell 11) (.var 2)) (.kint .i64 (1))) (.un (.cell 11) (.var 2)))) (.un (.not) (.var 96))) (
              .ret (.kbool false))
              (
              .again 0 [.var 42, .bin (.add .i64) (.var 43) (.kint .i64 (1))]))
            (
            .call 78 8 (.cons (.un (.agg) (.cons (.un (.cell 0) (.var 0)) (.cons (.un (.cell 1) (.var 0)) (.cons (.un (.cell 2) (.var 0)) (.cons (.un (.cell 3) (.var 0)) (.cons (.un (.cell 4) (.var 0)) (.cons (.un (.cell 5) (.var 0)) (.cons (.un (.cell 6) (.var 0)) (.cons (.un (.cell 7) (.var 0)) (.cons (.un (.cell 8) (.var 0)) (.nil))))))))))) (.cons (.var 1) (.cons (.var 43) (.cons (.un (.agg) (.cons (.un (.cell 11) (.var 2)) (.cons (.un (.cell 12) (.var 2)) (.nil)))) (.nil))))) [] <|
            .call 91 8 (.cons (.un (.agg) (.cons (.un (.cell 0) (.var 0)) (.cons (.un (.cell 1) (.var 0)) (.cons (.un (.cell 2) (.var 0)) (.cons (.un (.cell 3) (.var 0)) (.cons (.un (.cell 4) (.var 0)) (.cons (.un (.cell 5) (.var 0)) (.cons (.un (.cell 6) (.var 0)) (.cons (.un (.cell 7) (.var 0)) (.cons (.un (.cell 8) (.var 0)) (.nil))))))))))) (.cons (.var 1) (.cons (.var 43) (.cons (.un (.agg) (.cons (.un (.cell 11) (.var 2)) (.cons (.un (.cell 12) (.var 2)) (.nil)))) (.nil))))) [(.bin (.and) (.var 78) (.bin (.gt) (.un (.cell 11) (.var 2)) (.un (.cell 11) (.var 2))), true)] <|
            .branch (.bin (.and) (.bin (.and) (.var 78) (.bin (.gt) (.un (.cell 11) (.var 2)) (.un (.cell 11) (.var 2)))) (.un (.not) (.var 91))) (
              .ret (.kbool false))
              (
              .again 0 [.var 42, .bin (.add .i64) (.var 43) (.kint .i64 (1))]))))
        (
        .call 49 10 (.cons (.un (.agg) (.cons (.un (.cell 0) (.var 0)) (.cons (.un (.cell 1) (.var 0)) (.cons (.un (.cell 2) (.var 0)) (.cons (.un (.cell 3) (.var 0)) (.cons (.un (.cell 4) (.var 0)) (.cons (.un (.cell 5) (.var 0)) (.cons (.un (.cell 6) (.var 0)) (.cons (.un (.cell 7) (.var 0)) (.cons (.un (.cell 8) (.var 0)) (.nil))))))))))) (.cons (.var 1) (.cons (.un (.agg) (.cons (.un (.cell 11) (.var 2)) (.cons (.un (.cell 12) (.var 2)) (.nil)))) (.nil)))) [] <|
        .call 62 8 (.cons (.un (.agg) (.cons (.un (.cell 0) (.var 0)) (.cons (.un (.cell 1) (.var 0)) (.cons (.un (.cell 2) (.var 0)) (.cons (.un (.cell 3) (.var 0)) (.cons (.un (.cell 4) (.var 0)) (.cons (.un (.cell 5) (.var 0)) (.cons (.un (.cell 6) (.var 0)) (.cons (.un (.cell 7) (.var 0)) (.cons (.un (.cell 8) (.var 0)) (.nil))))))))))) (.cons (.var 1) (.cons (.un (.cell 0) (.var 49)) (.cons (.un (.agg) (.cons (.un (.cell 11) (.var 2)) (.cons (.un (.cell 12) (.var 2)) (.nil)))) (.nil))))) [(.un (.not) (.un (.cell 1) (.var 49)), false)] <|
        .call 65 7 (.nil) [(.bin (.or) (.un (.not) (.un (.cell 1) (.var 49))) (.var 62), true)] <|
        .ret (.bin (.and) (.bin (.or) (.un (.not) (.un (.cell 1) (.var 49))) (.var 62)) (.var 65)))))
def vc5 : VC :=
  .call 6 6 (.cons (.un (.agg) (.cons (.un (.cell 0) (.var 0)) (.cons (.un (.cell 1) (.var 0)) (.cons (.un (.cell 2) (.var 0)) (.cons (.un (.cell 3) (.var 0)) (.cons (.un (.cell 4) (.var 0)) (.cons (.un (.cell 5) (.var 0)) (.cons (.un (.cell 6) (.var 0)) (.cons (.un (.cell 7) (.var 0)) (.cons (.un (.cell 8) (.var 0)) (.nil))))))))))) (.nil)) [] <|
  .branch (.un (.not) (.var 6)) (
    .call 10 7 (.nil) [] <|
    .ret (.var 10))
    (
    .call 12 10 (.cons (.un (.agg) (.cons (.un (.cell 0) (.var 0)) (.cons (.un (.cell 1) (.var 0)) (.cons (.un (.cell 2) (.var 0)) (.cons (.un (.cell 3) (.var 0)) (.cons (.un (.cell 4) (.var 0)) (.cons (.un (.cell 5) (.var 0)) (.cons (.un (.cell 6) (.var 0)) (.cons (.un (.cell 7) (.var 0)) (.cons (.un (.cell 8) (.var 0)) (.nil))))))))))) (.cons (.nil) (.cons (.un (.agg) (.cons (.un (.cell 0) (.var 1)) (.cons (.un (.cell 1) (.var 1)) (.nil)))) (.nil)))) [] <|
    .branch (.un (.not) (.un (.cell 1) (.var 12))) (
      .loop 21 [.kbool false, .kint .i64 (0)] [.bool, .int .i64] (
        .branch (.bin (.lt) (.var 22) (.un (.len) (.un (.cell 4) (.var 0)))) (
          .obl [] (.bin (.and) (.bin (.le) (.kint .i64 (0)) (.var 22)) (.bin (.lt) (.var 22) (.un (.len) (.un (.cell 4) (.var 0))))) <|
          .call 36 8 (.cons (.un (.agg) (.cons (.un (.cell 0) (.var 0)) (.cons (.un (.cell 1) (.var 0)) (.cons (.un (.cell 2) (.var 0)) (.cons (.un (.cell 3) (.var 0)) (.cons (.un (.cell 4) (.var 0)) (.cons (.un (.cell 5) (.var 0)) (.cons (.un (.cell 6) (.var 0)) (.cons (.un (.cell 7) (.var 0)) (.cons (.un (.cell 8) (.var 0)) (.nil))))))))))) (.cons (.nil) (.cons (.un (.cell 0) (.bin (.idx) (.un (.cell 4) (.var 0)) (.var 22))) (.cons (.un (.agg) (.cons (.un (.cell 0) (.var 1)) (.cons (.un (.cell 1) (.var 1)) (.nil)))) (.nil))))) [] <|
          .branch (.var 36) (
            .ret (.kbool false))
            (
            .again 0 [.var 21, .bin (.add .i64) (.var 22) (.kint .i64 (1))]))
          (
          .call 28 7 (.nil) [] <|
          .ret (.var 28))))
      (
      .call 22 12 (.cons (.un (.agg) (.cons (.un (.cell 0) (.var 0)) (.cons (.un (.cell 1) (.var 0)) (.cons (.un (.cell 2) (.var 0)) (.cons (.un (.cell 3) (.var 0)) (.cons (.un (.cell 4) (.var 0)) (.cons (.un (.cell 5) (.var 0)) (.cons (.un (.cell 6) (.var 0)) (.cons (.un (.cell 7) (.var 0)) (.cons (.un (.cell 8) (.var 0)) (.nil))))))))))) (.cons (.un (.cell 0) (.var 12)) (.nil))) [] <|
      .loop 25 [.kbool false, .kint .i64 (0)] [.bool, .int .i64] (
        .branch (.bin (.lt) (.var 26) (.un (.len) (.un (.cell 4) (.var 0)))) (
          .obl [] (.bin (.and) (.bin (.le) (.kint .i64 (0)) (.var 26)) (.bin (.lt) (.var 26) (.un (.len) (.un (.cell 4) (.var 0))))) <|
          .call 42 8 (.cons (.un (.agg) (.cons (.un (.cell 0) (.var 0)) (.cons (.un (.cell 1) (.var 0)) (.cons (.un (.cell 2) (.var 0)) (.cons (.un (.cell 3) (.var 0)) (.cons (.un (.cell 4) (.var 0)) (.cons (.un (.cell 5) (.var 0)) (.cons (.un (.cell 6) (.var 0)) (.cons (.un (.cell 7) (.var 0)) (.cons (.un (.cell 8) (.var 0)) (.nil))))))))))) (.cons (.nil) (.cons (.un (.cell 0) (.bin (.idx) (.un (.cell 4) (.var 0)) (.var 26))) (.cons (.un (.agg) (.cons (.un (.cell 0) (.var 1)) (.cons (.un (.cell 1) (.var 1)) (.nil)))) (.nil))))) [] <|
          .branch (.un (.not) (.var 42)) (
            .again 0 [.var 25, .bin (.add .i64) (.var 26) (.kint .i64 (1))])
            (
            .call 46 12 (.cons (.un (.agg) (.cons (.un (.cell 0) (.var 0)) (.cons (.un (.cell 1) (.var 0)) (.cons (.un (.cell 2) (.var 0)) (.cons (.un (.cell 3) (.var 0)) (.cons (.un (.cell 4) (.var 0)) (.cons (.un (.cell 5) (.var 0)) (.cons (.un (.cell 6) (.var 0)) (.cons (.un (.cell 7) (.var 0)) (.cons (.un (.cell 8) (.var 0)) (.nil))))))))))) (.cons (.un (.cell 0) (.bin (.idx) (.un (.cell 4) (.var 0)) (.var 26))) (.nil))) [] <|
            .branch (.bin (.or) (.bin (.lt) (.var 46) (.var 22)) (.bin (.and) (.bin (.eq) (.var 46) (.var 22)) (.bin (.lt) (.un (.cell 0) (.bin (.idx) (.un (.cell 4) (.var 0)) (.var 26))) (.un (.cell 0) (.var 12))))) (
              .ret (.kbool false))
              (
              .again 0 [.var 25, .bin (.add .i64) (.var 26) (.kint .i64 (1))])))
          (
          .call 35 8 (.cons (.un (.agg) (.cons (.un (.cell 0) (.var 0)) (.cons (.un (.cell 1) (.var 0)) (.cons (.un (.cell 2) (.var 0)) (.cons (.un (.cell 3) (.var 0)) (.cons (.un (.cell 4) (.var 0)) (.cons (.un (.cell 5) (.var 0)) (.cons (.un (.cell 6) (.var 0)) (.cons (.un (.cell 7) (.var 0)) (.cons (.un (.cell 8) (.var 0)) (.nil))))))))))) (.cons (.nil) (.cons (.un (.cell 0) (.var 12)) (.cons (.un (.agg) (.cons (.un (.cell 0) (.var 1)) (.cons (.un (.cell 1) (.var 1)) (.nil)))) (.nil))))) [] <|
          .call 37 7 (.nil) [(.var 35, true)] <|
          .ret (.bin (.and) (.var 35) (.var 37))))))
end Go.Proofs.Ytkmgkdaedjdeeaa
