/-
  Signatures, tables and conditions of the functions of this seat, as a program of ours printed them.
-/
import Derived.Test.YtippnelhkdjknaaE9
import Derived.Test.YtippnelhkdjknaaE8
import Derived.Test.YtippnelhkdjknaaProg
namespace Go.Proofs.Ytippnelhkdjknaa
open Go Go.Eng Go.Proofs


def slotT : Ty := .agg (.ofL [.int .i64, .int .i64])
def itsS : List (Nat × (List Ty × Ty)) := [(29, ([.box (.ofL jobT.cells), .box (.ofL storeT.cells)], slotT))]
def s19 : Sig := ⟨[allocT], [(false, [(.bool, none)])], none⟩
def tb19 : List (Nat × Sig) := (19, s19) :: []
def s34 : Sig := ⟨[allocT, .box (.ofL [.int .i64]), .box (.ofL [.int .i64]), .box (.ofL [.int .i64])], [(false, [(.bool, none)])], none⟩
def tb34 : List (Nat × Sig) := (34, s34) :: tb19
def sslotAt : Sig := ⟨[.list allocT, .fn 34 (.ofL [.box (.ofL [.int .i64]), .box (.ofL [.int .i64]), .box (.ofL [.int .i64])])], [(false, [(.int .i64, none)])], none⟩
def tbslotAt : List (Nat × Sig) := (33, sslotAt) :: tb34
def s22 : Sig := ⟨[storeT, .int .i64, .int .i64, .int .i64], [(false, [(.int .i64, none)])], none⟩
def tb22 : List (Nat × Sig) := (22, s22) :: tbslotAt
def s9 : Sig := ⟨[storeT, .int .i64, .int .i64, .int .i64], [(false, [(.int .i64, none)])], none⟩
def tb9 : List (Nat × Sig) := (9, s9) :: tb22
def s28 : Sig := ⟨[jobT, .box (.ofL [.int .i64])], [(false, [(.bool, none)])], none⟩
def tb28 : List (Nat × Sig) := (28, s28) :: tb9
def satJob : Sig := ⟨[.list jobT, .fn 28 (.ofL [.box (.ofL [.int .i64])])], [(false, [(.int .i64, none)])], none⟩
def tbatJob : List (Nat × Sig) := (27, satJob) :: tb28
def s17 : Sig := ⟨[storeT, .int .i64], [(false, [(.int .i64, none)])], none⟩
def tb17 : List (Nat × Sig) := (17, s17) :: tbatJob
def s11 : Sig := ⟨[storeT, .int .i64], [(false, [(.int .i64, none)])], none⟩
def tb11 : List (Nat × Sig) := (11, s11) :: tb17
def s32 : Sig := ⟨[nodeT, .box (.ofL [.int .i64])], [(false, [(.bool, none)])], none⟩
def tb32 : List (Nat × Sig) := (32, s32) :: tb11
def satNode : Sig := ⟨[.list nodeT, .fn 32 (.ofL [.box (.ofL [.int .i64])])], [(false, [(.int .i64, none)])], none⟩
def tbatNode : List (Nat × Sig) := (31, satNode) :: tb32
def s20 : Sig := ⟨[storeT, .int .i64], [(false, [(.int .i64, none)])], none⟩
def tb20 : List (Nat × Sig) := (20, s20) :: tbatNode
def s13 : Sig := ⟨[storeT, .int .i64], [(false, [(.int .i64, none)])], none⟩
def tb13 : List (Nat × Sig) := (13, s13) :: tb20
def s14 : Sig := ⟨[storeT, .int .i64], [(false, [(.int .i64, none)])], none⟩
def tb14 : List (Nat × Sig) := (14, s14) :: tb13
def s39 : Sig := ⟨[.list (.int .i64), .int .i64], [(false, [(.int .i64, none)])], none⟩
def tb39 : List (Nat × Sig) := (39, s39) :: tb14
def s37 : Sig := ⟨[.list (.int .i64), .int .i64], [(false, [(.bool, none)])], none⟩
def tb37 : List (Nat × Sig) := (37, s37) :: tb39
def s26 : Sig := ⟨[jobT], [(true, [(.int .i64, none), (.int .i64, none), (.int .i64, none), (.int .i64, none), (grpT, some (0, 65)), (.int .i64, none), (.bool, none)])], none⟩
def tb26 : List (Nat × Sig) := (26, s26) :: tb37
def s16 : Sig := ⟨[storeT], [(true, [(.int .i64, none), (.int .i64, none), (jobT, some (0, 46)), (jobT, some (1, 46)), (nodeT, some (2, 51)), (allocT, some (3, 40)), (evalT, some (4, 99)), (evalT, some (5, 101)), (seenT, some (6, 72))])], none⟩
def tb16 : List (Nat × Sig) := (16, s16) :: tb26
def s25 : Sig := ⟨[.list (.int .i64), .int .i64], [(false, [(.bool, none)])], none⟩
def tb25 : List (Nat × Sig) := (25, s25) :: tb16
def s36 : Sig := ⟨[allocT, .box (.ofL jobT.cells), .box (.ofL slotT.cells)], [(false, [(.bool, none)])], none⟩
def tb36 : List (Nat × Sig) := (36, s36) :: tb25
def s38 : Sig := ⟨[.list allocT, .fn 36 (.ofL [.box (.ofL jobT.cells), .box (.ofL slotT.cells)])], [(false, [(.int .i64, none)])], none⟩
def tb38 : List (Nat × Sig) := (38, s38) :: tb36
def s35 : Sig := ⟨[.list allocT, .fn 36 (.ofL [.box (.ofL jobT.cells), .box (.ofL slotT.cells)])], [(false, [(.bool, none)])], none⟩
def tb35 : List (Nat × Sig) := (35, s35) :: tb38
def s23 : Sig := ⟨[storeT, jobT, slotT], [(false, [(.bool, none)])], none⟩
def tb23 : List (Nat × Sig) := (23, s23) :: tb35
def s30 : Sig := ⟨[storeT, jobT, .int .i64], [(false, [(.list (.int .i64), none)])], none⟩
def tb30 : List (Nat × Sig) := (30, s30) :: tb23
def s18 : Sig := ⟨[storeT, jobT], [(false, [(.fn 29 (.ofL [.box (.ofL jobT.cells), .box (.ofL storeT.cells)]), none)])], none⟩
def tb18 : List (Nat × Sig) := (18, s18) :: tb30
def s12 : Sig := ⟨[storeT, jobT], [(false, [(slotT, some (0, 49))])], none⟩
def tb12 : List (Nat × Sig) := (12, s12) :: tb18
def s24 : Sig := ⟨[], [(true, storeT.cells.map fun c => (c, none))], none⟩
def tb24 : List (Nat × Sig) := (24, s24) :: tb12
def s21 : EatSig := ⟨[storeT, jobT], .int .i64, 3, .int .i64, 59⟩
def xtRoll : XTbl := ⟨[(59, .int .i64)], [], itsS⟩
def s8 : Sig := ⟨[storeT, .int .i64], [(false, [(.list (.int .i64), none)]), (false, [(slotT, some (1001, 36))])], none⟩
def xtDiff : XTbl := ⟨[(55, slotT), (59, .int .i64)], [(21, s21)], itsS⟩
def tb8 : List (Nat × Sig) := (8, s8) :: tb24
def s8p : Sig := ⟨[storeT, .int .i64], [(false, [(.list (.int .i64), none)]), (false, [(.list slotT, none)])], none⟩
def tb8p : List (Nat × Sig) := (8, s8p) :: tb8
def sknownX : Sig := ⟨[], [(true, [(.int .i64, none), (.int .i64, none), (.list jobT, none), (.list jobT, none), (.list nodeT, none), (allocT, some (1000, 40)), (.list evalT, none), (.list evalT, none), (.list seenT, none)])], none⟩
def tbknownX : List (Nat × Sig) := (24, sknownX) :: tb8p
def s10 : Sig := ⟨[], [(false, [(.bool, none)])], none⟩
def tb10 : List (Nat × Sig) := (10, s10) :: tbknownX
def s3 : Sig := ⟨[storeT, .int .i64], [(false, [(.bool, none)])], none⟩
def tb3 : List (Nat × Sig) := (3, s3) :: tb10
def s5 : Sig := ⟨[storeT, .int .i64], [(false, [(.bool, none)])], none⟩
def tb5 : List (Nat × Sig) := (5, s5) :: tb3
def scopyX : Sig := ⟨[storeT], [(true, [(.int .i64, none), (.int .i64, none), (jobT, some (1002, 46)), (jobT, some (1003, 46)), (nodeT, some (1004, 51)), (allocT, some (1005, 40)), (evalT, some (1006, 99)), (evalT, some (1007, 101)), (seenT, some (1008, 72))])], none⟩
def tbcopyX : List (Nat × Sig) := (16, scopyX) :: tb5
def s15 : Sig := ⟨[storeT, jobT], [(false, [(.int .i64, none)])], none⟩
def tb15 : List (Nat × Sig) := (15, s15) :: tbcopyX
def s6 : Sig := ⟨[storeT, .int .i64], [(false, [(.bool, none)])], none⟩
def tb6 : List (Nat × Sig) := (6, s6) :: tb15
def s7 : Sig := ⟨[storeT, .int .i64, .int .i64], [(false, [(.bool, none)])], none⟩
def tb7 : List (Nat × Sig) := (7, s7) :: tb6
def s4 : Sig := ⟨[storeT, .int .i64], [(false, [(.bool, none)])], none⟩
def tb4 : List (Nat × Sig) := (4, s4) :: tb7
def vc19 : VC :=
  .ret (.bin (.ge) (.un (.cell 10) (.var 0)) (.kint .i64 (3)))
def vc34 : VC :=
  .call 24 19 (.cons (.un (.agg) (.cons (.un (.cell 0) (.var 0)) (.cons (.un (.cell 1) (.var 0)) (.cons (.un (.cell 2) (.var 0)) (.cons (.un (.cell 3) (.var 0)) (.cons (.un (.cell 4) (.var 0)) (.cons (.un (.cell 5) (.var 0)) (.cons (.un (.cell 6) (.var 0)) (.cons (.un (.cell 7) (.var 0)) (.cons (.un (.cell 8) (.var 0)) (.cons (.un (.cell 9) (.var 0)) (.cons (.un (.cell 10) (.var 0)) (.nil))))))))))))) (.nil)) [(.bin (.and) (.bin (.and) (.bin (.eq) (.un (.cell 1) (.var 0)) (.un (.cell 0) (.un (.agg) (.var 1)))) (.bin (.eq) (.un (.cell 3) (.var 0)) (.un (.cell 0) (.un (.agg) (.var 2))))) (.bin (.eq) (.un (.cell 4) (.var 0)) (.un (.cell 0) (.un (.agg) (.var 3)))), true)] <|
  .ret (.bin (.and) (.bin (.and) (.bin (.and) (.bin (.eq) (.un (.cell 1) (.var 0)) (.un (.cell 0) (.un (.agg) (.var 1)))) (.bin (.eq) (.un (.cell 3) (.var 0)) (.un (.cell 0) (.un (.agg) (.var 2))))) (.bin (.eq) (.un (.cell 4) (.var 0)) (.un (.cell 0) (.un (.agg) (.var 3))))) (.un (.not) (.var 24)))
def vcslotAt : VC :=
  .loop 6 [.kint .i64 (0), .kint .i64 (0)] [.int .i64, .int .i64] (
    .branch (.bin (.lt) (.var 7) (.un (.len) (.var 0))) (
      .obl [] (.bin (.and) (.bin (.le) (.kint .i64 (0)) (.var 7)) (.bin (.lt) (.var 7) (.un (.len) (.var 0)))) <|
      .call 16 34 (.cons (.bin (.idx) (.var 0) (.var 7)) (.cons (.un (.cell 0) (.var 1)) (.cons (.un (.cell 1) (.var 1)) (.cons (.un (.cell 2) (.var 1)) (.nil))))) [] <|
      .branch (.var 16) (
        .ret (.var 7))
        (
        .again 0 [.var 6, .bin (.add .i64) (.var 7) (.kint .i64 (1))]))
      (
      .ret (.kint .i64 (-1))))
def vc22 : VC :=
  .call 12 33 (.cons (.un (.cell 5) (.var 0)) (.cons (.un (.fnc 34) (.cons (.un (.ptrc) (.cons (.var 1) (.nil))) (.cons (.un (.ptrc) (.cons (.var 2) (.nil))) (.cons (.un (.ptrc) (.cons (.var 3) (.nil))) (.nil))))) (.nil))) [] <|
  .ret (.var 12)
def vc9 : VC :=
  .loop 7 [.kint .i64 (0), .kint .i64 (0)] [.int .i64, .int .i64] (
    .branch (.bin (.lt) (.var 8) (.un (.len) (.un (.cell 5) (.var 0)))) (
      .obl [] (.bin (.and) (.bin (.le) (.kint .i64 (0)) (.var 8)) (.bin (.lt) (.var 8) (.un (.len) (.un (.cell 5) (.var 0))))) <|
      .branch (.bin (.and) (.bin (.and) (.bin (.and) (.bin (.eq) (.un (.cell 1) (.bin (.idx) (.un (.cell 5) (.var 0)) (.var 8))) (.var 1)) (.bin (.eq) (.un (.cell 3) (.bin (.idx) (.un (.cell 5) (.var 0)) (.var 8))) (.var 2))) (.bin (.eq) (.un (.cell 4) (.bin (.idx) (.un (.cell 5) (.var 0)) (.var 8))) (.var 3))) (.bin (.lt) (.un (.cell 10) (.bin (.idx) (.un (.cell 5) (.var 0)) (.var 8))) (.kint .i64 (3)))) (
        .ret (.var 8))
        (
        .again 0 [.var 7, .bin (.add .i64) (.var 8) (.kint .i64 (1))]))
      (
      .ret (.kint .i64 (-1))))
def vc28 : VC :=
  .ret (.bin (.eq) (.un (.cell 0) (.var 0)) (.un (.cell 0) (.un (.agg) (.var 1))))
def vcatJob : VC :=
  .loop 6 [.kint .i64 (0), .kint .i64 (0)] [.int .i64, .int .i64] (
    .branch (.bin (.lt) (.var 7) (.un (.len) (.var 0))) (
      .obl [] (.bin (.and) (.bin (.le) (.kint .i64 (0)) (.var 7)) (.bin (.lt) (.var 7) (.un (.len) (.var 0)))) <|
      .call 16 28 (.cons (.bin (.idx) (.var 0) (.var 7)) (.cons (.un (.cell 0) (.var 1)) (.nil))) [] <|
      .branch (.var 16) (
        .ret (.var 7))
        (
        .again 0 [.var 6, .bin (.add .i64) (.var 7) (.kint .i64 (1))]))
      (
      .ret (.kint .i64 (-1))))
def vc17 : VC :=
  .call 8 27 (.cons (.un (.cell 2) (.var 0)) (.cons (.un (.fnc 28) (.cons (.un (.ptrc) (.cons (.var 1) (.nil))) (.nil))) (.nil))) [] <|
  .ret (.var 8)
def vc11 : VC :=
  .loop 5 [.kint .i64 (0), .kint .i64 (0)] [.int .i64, .int .i64] (
    .branch (.bin (.lt) (.var 6) (.un (.len) (.un (.cell 2) (.var 0)))) (
      .obl [] (.bin (.and) (.bin (.le) (.kint .i64 (0)) (.var 6)) (.bin (.lt) (.var 6) (.un (.len) (.un (.cell 2) (.var 0))))) <|
      .branch (.bin (.eq) (.un (.cell 0) (.bin (.idx) (.un (.cell 2) (.var 0)) (.var 6))) (.var 1)) (
        .ret (.var 6))
        (
        .again 0 [.var 5, .bin (.add .i64) (.var 6) (.kint .i64 (1))]))
      (
      .ret (.kint .i64 (-1))))
def vc32 : VC :=
  .ret (.bin (.eq) (.un (.cell 0) (.var 0)) (.un (.cell 0) (.un (.agg) (.var 1))))
def vcatNode : VC :=
  .loop 6 [.kint .i64 (0), .kint .i64 (0)] [.int .i64, .int .i64] (
    .branch (.bin (.lt) (.var 7) (.un (.len) (.var 0))) (
      .obl [] (.bin (.and) (.bin (.le) (.kint .i64 (0)) (.var 7)) (.bin (.lt) (.var 7) (.un (.len) (.var 0)))) <|
      .call 16 32 (.cons (.bin (.idx) (.var 0) (.var 7)) (.cons (.un (.cell 0) (.var 1)) (.nil))) [] <|
      .branch (.var 16) (
        .ret (.var 7))
        (
        .again 0 [.var 6, .bin (.add .i64) (.var 7) (.kint .i64 (1))]))
      (
      .ret (.kint .i64 (-1))))
def vc20 : VC :=
  .call 8 31 (.cons (.un (.cell 4) (.var 0)) (.cons (.un (.fnc 32) (.cons (.un (.ptrc) (.cons (.var 1) (.nil))) (.nil))) (.nil))) [] <|
  .ret (.var 8)
def vc13 : VC :=
  .loop 5 [.kint .i64 (0), .kint .i64 (0)] [.int .i64, .int .i64] (
    .branch (.bin (.lt) (.var 6) (.un (.len) (.un (.cell 4) (.var 0)))) (
      .obl [] (.bin (.and) (.bin (.le) (.kint .i64 (0)) (.var 6)) (.bin (.lt) (.var 6) (.un (.len) (.un (.cell 4) (.var 0))))) <|
      .branch (.bin (.eq) (.un (.cell 0) (.bin (.idx) (.un (.cell 4) (.var 0)) (.var 6))) (.var 1)) (
        .ret (.var 6))
        (
        .again 0 [.var 5, .bin (.add .i64) (.var 6) (.kint .i64 (1))]))
      (
      .ret (.kint .i64 (-1))))
def vc14 : VC :=
  .loop 5 [.kint .i64 (0), .kint .i64 (0)] [.int .i64, .int .i64] (
    .branch (.bin (.lt) (.var 6) (.un (.len) (.un (.cell 5) (.var 0)))) (
      .obl [] (.bin (.and) (.bin (.le) (.kint .i64 (0)) (.var 6)) (.bin (.lt) (.var 6) (.un (.len) (.un (.cell 5) (.var 0))))) <|
      .branch (.bin (.eq) (.un (.cell 0) (.bin (.idx) (.un (.cell 5) (.var 0)) (.var 6))) (.var 1)) (
        .ret (.var 6))
        (
        .again 0 [.var 5, .bin (.add .i64) (.var 6) (.kint .i64 (1))]))
      (
      .ret (.kint .i64 (-1))))
def vc39 : VC :=
  .loop 6 [.kint .i64 (0), .kint .i64 (0)] [.int .i64, .int .i64] (
    .branch (.bin (.lt) (.var 7) (.un (.len) (.var 0))) (
      .obl [] (.bin (.and) (.bin (.le) (.kint .i64 (0)) (.var 7)) (.bin (.lt) (.var 7) (.un (.len) (.var 0)))) <|
      .branch (.bin (.eq) (.var 1) (.bin (.idx) (.var 0) (.var 7))) (
        .ret (.var 7))
        (
        .again 0 [.var 6, .bin (.add .i64) (.var 7) (.kint .i64 (1))]))
      (
      .ret (.kint .i64 (-1))))
def vc37 : VC :=
  .call 5 39 (.cons (.var 0) (.cons (.var 1) (.nil))) [] <|
  .ret (.bin (.ge) (.var 5) (.kint .i64 (0)))
def vc26 : VC :=
  .room [] (.bin (.cat) (.nil) (.un (.cell 4) (.var 0))) 24 <|
  .ret (.un (.agg) (.cons (.un (.cell 0) (.var 0)) (.cons (.un (.cell 1) (.var 0)) (.cons (.un (.cell 2) (.var 0)) (.cons (.un (.cell 3) (.var 0)) (.cons (.bin (.cat) (.nil) (.un (.cell 4) (.var 0))) (.cons (.un (.cell 5) (.var 0)) (.cons (.un (.cell 6) (.var 0)) (.nil)))))))))
def vc16 : VC :=
  .loop 11 [.kint .i64 (0), .un (.cell 0) (.var 0), .un (.cell 1) (.var 0), .nil, .nil, .nil, .nil, .nil, .nil, .nil] [.int .i64, .int .i64, .int .i64, .list (.agg (.cons (.int .i64) (.cons (.int .i64) (.cons (.int .i64) (.cons (.int .i64) (.cons (.list (.agg (.cons (.int .i64) (.cons (.int .i64) (.cons (.int .i64) (.nil)))))) (.cons (.int .i64) (.cons (.bool) (.nil))))))))), .list (.agg (.cons (.int .i64) (.cons (.int .i64) (.cons (.int .i64) (.cons (.int .i64) (.cons (.list (.agg (.cons (.int .i64) (.cons (.int .i64) (.cons (.int .i64) (.nil)))))) (.cons (.int .i64) (.cons (.bool) (.nil))))))))), .list (.agg (.cons (.int .i64) (.cons (.int .i64) (.cons (.int .i64) (.cons (.bool) (.cons (.bool) (.cons (.int .i64) (.cons (.int .i64) (.cons (.int .i64) (.nil)))))))))), .list (.agg (.cons (.int .i64) (.cons (.int .i64) (.cons (.int .i64) (.cons (.int .i64) (.cons (.int .i64) (.cons (.int .i64) (.cons (.int .i64) (.cons (.int .i64) (.cons (.int .i64) (.cons (.bool) (.cons (.int .i64) (.nil))))))))))))), .list (.agg (.cons (.int .i64) (.cons (.int .i64) (.cons (.int .i64) (.cons (.int .i64) (.nil)))))), .list (.agg (.cons (.int .i64) (.cons (.int .i64) (.cons (.int .i64) (.cons (.int .i64) (.nil)))))), .list (.agg (.cons (.int .i64) (.cons (.int .i64) (.cons (.int .i64) (.cons (.int .i64) (.cons (.list (.agg (.cons (.int .i64) (.cons (.int .i64) (.cons (.int .i64) (.cons (.int .i64) (.cons (.int .i64) (.cons (.int .i64) (.cons (.int .i64) (.cons (.int .i64) (.cons (.int .i64) (.cons (.bool) (.cons (.int .i64) (.nil)))))))))))))) (.nil)))))))] (
    .branch (.bin (.lt) (.var 11) (.un (.len) (.un (.cell 2) (.var 0)))) (
      .obl [] (.bin (.and) (.bin (.le) (.kint .i64 (0)) (.var 11)) (.bin (.lt) (.var 11) (.un (.len) (.un (.cell 2) (.var 0))))) <|
      .call 33 26 (.cons (.bin (.idx) (.un (.cell 2) (.var 0)) (.var 11)) (.nil)) [] <|
      .room [] (.bin (.cat) (.var 14) (.cons (.un (.agg) (.cons (.un (.cell 0) (.var 33)) (.cons (.un (.cell 1) (.var 33)) (.cons (.un (.cell 2) (.var 33)) (.cons (.un (.cell 3) (.var 33)) (.cons (.un (.cell 4) (.var 33)) (.cons (.un (.cell 5) (.var 33)) (.cons (.un (.cell 6) (.var 33)) (.nil))))))))) (.nil))) 72 <|
      .again 0 [.bin (.add .i64) (.var 11) (.kint .i64 (1)), .var 12, .var 13, .bin (.cat) (.var 14) (.cons (.un (.agg) (.cons (.un (.cell 0) (.var 33)) (.cons (.un (.cell 1) (.var 33)) (.cons (.un (.cell 2) (.var 33)) (.cons (.un (.cell 3) (.var 33)) (.cons (.un (.cell 4) (.var 33)) (.cons (.un (.cell 5) (.var 33)) (.cons (.un (.cell 6) (.var 33)) (.nil))))))))) (.nil)), .var 15, .var 16, .var 17, .var 18, .var 19, .var 20])
      (
      .loop 27 [.kint .i64 (0), .var 12, .var 13, .var 14, .var 15, .var 16, .var 17, .var 18, .var 19, .var 20] [.int .i64, .int .i64, .int .i64, .list (.agg (.cons (.int .i64) (.cons (.int .i64) (.cons (.int .i64) (.cons (.int .i64) (.cons (.list (.agg (.cons (.int .i64) (.cons (.int .i64) (.cons (.int .i64) (.nil)))))) (.cons (.int .i64) (.cons (.bool) (.nil))))))))), .list (.agg (.cons (.int .i64) (.cons (.int .i64) (.cons (.int .i64) (.cons (.int .i64) (.cons (.list (.agg (.cons (.int .i64) (.cons (.int .i64) (.cons (.int .i64) (.nil)))))) (.cons (.int .i64) (.cons (.bool) (.nil))))))))), .list (.agg (.cons (.int .i64) (.cons (.int .i64) (.cons (.int .i64) (.cons (.bool) (.cons (.bool) (.cons (.int .i64) (.cons (.int .i64) (.cons (.int .i64) (.nil)))))))))), .list (.agg (.cons (.int .i64) (.cons (.int .i64) (.cons (.int .i64) (.cons (.int .i64) (.cons (.int .i64) (.cons (.int .i64) (.cons (.int .i64) (.cons (.int .i64) (.cons (.int .i64) (.cons (.bool) (.cons (.int .i64) (.nil))))))))))))), .list (.agg (.cons (.int .i64) (.cons (.int .i64) (.cons (.int .i64) (.cons (.int .i64) (.nil)))))), .list (.agg (.cons (.int .i64) (.cons (.int .i64) (.cons (.int .i64) (.cons (.int .i64) (.nil)))))), .list (.agg (.cons (.int .i64) (.cons (.int .i64) (.cons (.int .i64) (.cons (.int .i64) (.cons (.list (.agg (.cons (.int .i64) (.cons (.int .i64) (.cons (.int .i64) (.cons (.int .i64) (.cons (.int .i64) (.cons (.int .i64) (.cons (.int .i64) (.cons (.int .i64) (.cons (.int .i64) (.cons (.bool) (.cons (.int .i64) (.nil)))))))))))))) (.nil)))))))] (
        .branch (.bin (.lt) (.var 27) (.un (.len) (.un (.cell 3) (.var 0)))) (
          .obl [] (.bin (.and) (.bin (.le) (.kint .i64 (0)) (.var 27)) (.bin (.lt) (.var 27) (.un (.len) (.un (.cell 3) (.var 0))))) <|
          .call 49 26 (.cons (.bin (.idx) (.un (.cell 3) (.var 0)) (.var 27)) (.nil)) [] <|
          .room [] (.bin (.cat) (.var 31) (.cons (.un (.agg) (.cons (.un (.cell 0) (.var 49)) (.cons (.un (.cell 1) (.var 49)) (.cons (.un (.cell 2) (.var 49)) (.cons (.un (.cell 3) (.var 49)) (.cons (.un (.cell 4) (.var 49)) (.cons (.un (.cell 5) (.var 49)) (.cons (.un (.cell 6) (.var 49)) (.nil))))))))) (.nil))) 72 <|
          .again 0 [.bin (.add .i64) (.var 27) (.kint .i64 (1)), .var 28, .var 29, .var 30, .bin (.cat) (.var 31) (.cons (.un (.agg) (.cons (.un (.cell 0) (.var 49)) (.cons (.un (.cell 1) (.var 49)) (.cons (.un (.cell 2) (.var 49)) (.cons (.un (.cell 3) (.var 49)) (.cons (.un (.cell 4) (.var 49)) (.cons (.un (.cell 5) (.var 49)) (.cons (.un (.cell 6) (.var 49)) (.nil))))))))) (.nil)), .var 32, .var 33, .var 34, .var 35, .var 36])
          (
          .room [] (.bin (.cat) (.var 32) (.un (.cell 4) (.var 0))) 56 <|
          .room [] (.bin (.cat) (.var 33) (.un (.cell 5) (.var 0))) 88 <|
          .room [] (.bin (.cat) (.var 34) (.un (.cell 6) (.var 0))) 32 <|
          .room [] (.bin (.cat) (.var 35) (.un (.cell 7) (.var 0))) 32 <|
          .loop 71 [.kint .i64 (0), .var 28, .var 29, .var 30, .var 31, .bin (.cat) (.var 32) (.un (.cell 4) (.var 0)), .bin (.cat) (.var 33) (.un (.cell 5) (.var 0)), .bin (.cat) (.var 34) (.un (.cell 6) (.var 0)), .bin (.cat) (.var 35) (.un (.cell 7) (.var 0)), .var 36] [.int .i64, .int .i64, .int .i64, .list (.agg (.cons (.int .i64) (.cons (.int .i64) (.cons (.int .i64) (.cons (.int .i64) (.cons (.list (.agg (.cons (.int .i64) (.cons (.int .i64) (.cons (.int .i64) (.nil)))))) (.cons (.int .i64) (.cons (.bool) (.nil))))))))), .list (.agg (.cons (.int .i64) (.cons (.int .i64) (.cons (.int .i64) (.cons (.int .i64) (.cons (.list (.agg (.cons (.int .i64) (.cons (.int .i64) (.cons (.int .i64) (.nil)))))) (.cons (.int .i64) (.cons (.bool) (.nil))))))))), .list (.agg (.cons (.int .i64) (.cons (.int .i64) (.cons (.int .i64) (.cons (.bool) (.cons (.bool) (.cons (.int .i64) (.cons (.int .i64) (.cons (.int .i64) (.nil)))))))))), .list (.agg (.cons (.int .i64) (.cons (.int .i64) (.cons (.int .i64) (.cons (.int .i64) (.cons (.int .i64) (.cons (.int .i64) (.cons (.int .i64) (.cons (.int .i64) (.cons (.int .i64) (.cons (.bool) (.cons (.int .i64) (.nil))))))))))))), .list (.agg (.cons (.int .i64) (.cons (.int .i64) (.cons (.int .i64) (.cons (.int .i64) (.nil)))))), .list (.agg (.cons (.int .i64) (.cons (.int .i64) (.cons (.int .i64) (.cons (.int .i64) (.nil)))))), .list (.agg (.cons (.int .i64) (.cons (.int .i64) (.cons (.int .i64) (.cons (.int .i64) (.cons (.list (.agg (.cons (.int .i64) (.cons (.int .i64) (.cons (.int .i64) (.cons (.int .i64) (.cons (.int .i64) (.cons (.int .i64) (.cons (.int .i64) (.cons (.int .i64) (.cons (.int .i64) (.cons (.bool) (.cons (.int .i64) (.nil)))))))))))))) (.nil)))))))] (
            .branch (.bin (.lt) (.var 71) (.un (.len) (.un (.cell 8) (.var 0)))) (
              .obl [] (.bin (.and) (.bin (.le) (.kint .i64 (0)) (.var 71)) (.bin (.lt) (.var 71) (.un (.len) (.un (.cell 8) (.var 0))))) <|
              .room [] (.bin (.cat) (.nil) (.un (.cell 4) (.bin (.idx) (.un (.cell 8) (.var 0)) (.var 71)))) 88 <|
              .room [] (.bin (.cat) (.var 80) (.cons (.un (.agg) (.cons (.un (.cell 0) (.bin (.idx) (.un (.cell 8) (.var 0)) (.var 71))) (.cons (.un (.cell 1) (.bin (.idx) (.un (.cell 8) (.var 0)) (.var 71))) (.cons (.un (.cell 2) (.bin (.idx) (.un (.cell 8) (.var 0)) (.var 71))) (.cons (.un (.cell 3) (.bin (.idx) (.un (.cell 8) (.var 0)) (.var 71))) (.cons (.bin (.cat) (.nil) (.un (.cell 4) (.bin (.idx) (.un (.cell 8) (.var 0)) (.var 71)))) (.nil))))))) (.nil))) 56 <|
              .again 0 [.bin (.add .i64) (.var 71) (.kint .i64 (1)), .var 72, .var 73, .var 74, .var 75, .var 76, .var 77, .var 78, .var 79, .bin (.cat) (.var 80) (.cons (.un (.agg) (.cons (.un (.cell 0) (.bin (.idx) (.un (.cell 8) (.var 0)) (.var 71))) (.cons (.un (.cell 1) (.bin (.idx) (.un (.cell 8) (.var 0)) (.var 71))) (.cons (.un (.cell 2) (.bin (.idx) (.un (.cell 8) (.var 0)) (.var 71))) (.cons (.un (.cell 3) (.bin (.idx) (.un (.cell 8) (.var 0)) (.var 71))) (.cons (.bin (.cat) (.nil) (.un (.cell 4) (.bin (.idx) (.un (.cell 8) (.var 0)) (.var 71)))) (.nil))))))) (.nil))])
              (
              .ret (.un (.agg) (.cons (.var 72) (.cons (.var 73) (.cons (.var 74) (.cons (.var 75) (.cons (.var 76) (.cons (.var 77) (.cons (.var 78) (.cons (.var 79) (.cons (.var 80) (.nil)))))))))))))))))
def vc25 : VC :=
  .loop 4 [.kbool false, .kint .i64 (0)] [.bool, .int .i64] (
    .branch (.bin (.lt) (.var 5) (.un (.len) (.var 0))) (
      .obl [] (.bin (.and) (.bin (.le) (.kint .i64 (0)) (.var 5)) (.bin (.lt) (.var 5) (.un (.len) (.var 0)))) <|
      .branch (.bin (.eq) (.bin (.idx) (.var 0) (.var 5)) (.var 1)) (
        .ret (.kbool true))
        (
        .again 0 [.var 4, .bin (.add .i64) (.var 5) (.kint .i64 (1))]))
      (
      .ret (.kbool false)))
def vc36 : VC :=
  .ret (.bin (.and) (.bin (.and) (.bin (.and) (.bin (.and) (.bin (.eq) (.un (.cell 1) (.var 0)) (.un (.cell 0) (.un (.agg) (.var 1)))) (.bin (.eq) (.un (.cell 2) (.var 0)) (.un (.cell 5) (.un (.agg) (.var 1))))) (.bin (.eq) (.un (.cell 3) (.var 0)) (.un (.cell 0) (.un (.agg) (.var 2))))) (.bin (.eq) (.un (.cell 4) (.var 0)) (.un (.cell 1) (.un (.agg) (.var 2))))) (.bin (.eq) (.un (.cell 10) (.var 0)) (.kint .i64 (3))))
def vc38 : VC :=
  .loop 6 [.kint .i64 (0), .kint .i64 (0)] [.int .i64, .int .i64] (
    .branch (.bin (.lt) (.var 7) (.un (.len) (.var 0))) (
      .obl [] (.bin (.and) (.bin (.le) (.kint .i64 (0)) (.var 7)) (.bin (.lt) (.var 7) (.un (.len) (.var 0)))) <|
      .call 16 36 (.cons (.bin (.idx) (.var 0) (.var 7)) (.cons (.un (.cell 0) (.var 1)) (.cons (.un (.cell 1) (.var 1)) (.nil)))) [] <|
      .branch (.var 16) (
        .ret (.var 7))
        (
        .again 0 [.var 6, .bin (.add .i64) (.var 7) (.kint .i64 (1))]))
      (
      .ret (.kint .i64 (-1))))
def vc35 : VC :=
  .call 5 38 (.cons (.var 0) (.cons (.var 1) (.nil))) [] <|
  .ret (.bin (.ge) (.var 5) (.kint .i64 (0)))
def vc23 : VC :=
  .call 14 35 (.cons (.un (.cell 5) (.var 0)) (.cons (.un (.fnc 36) (.cons (.un (.ptrc) (.cons (.un (.cell 0) (.var 1)) (.cons (.un (.cell 1) (.var 1)) (.cons (.un (.cell 2) (.var 1)) (.cons (.un (.cell 3) (.var 1)) (.cons (.un (.cell 4) (.var 1)) (.cons (.un (.cell 5) (.var 1)) (.cons (.un (.cell 6) (.var 1)) (.nil))))))))) (.cons (.un (.ptrc) (.cons (.un (.cell 0) (.var 2)) (.cons (.un (.cell 1) (.var 2)) (.nil)))) (.nil)))) (.nil))) [(.bin (.eq) (.un (.cell 1) (.var 1)) (.kint .i64 (2)), true)] <|
  .ret (.bin (.and) (.bin (.eq) (.un (.cell 1) (.var 1)) (.kint .i64 (2))) (.var 14))
def vc30 : VC :=
  .branch (.bin (.ne) (.un (.cell 1) (.var 1)) (.kint .i64 (3))) (
    .obl [] (.bin (.and) (.bin (.le) (.kint .i64 (0)) (.var 2)) (.bin (.lt) (.var 2) (.un (.len) (.un (.cell 4) (.var 1))))) <|
    .loop 19 [.nil, .kint .i64 (0)] [.list (.int .i64), .int .i64] (
      .branch (.bin (.lt) (.var 20) (.bin (.max .i64) (.kint .i64 (0)) (.bin (.min .i64) (.un (.cell 0) (.bin (.idx) (.un (.cell 4) (.var 1)) (.var 2))) (.kint .i64 (4))))) (
        .room [] (.bin (.cat) (.var 19) (.cons (.var 20) (.nil))) 8 <|
        .again 0 [.bin (.cat) (.var 19) (.cons (.var 20) (.nil)), .bin (.add .i64) (.var 20) (.kint .i64 (1))])
        (
        .ret (.var 19))))
    (
    .loop 14 [.nil, .kint .i64 (0)] [.list (.int .i64), .int .i64] (
      .branch (.bin (.lt) (.var 15) (.un (.len) (.un (.cell 4) (.var 0)))) (
        .obl [] (.bin (.and) (.bin (.le) (.kint .i64 (0)) (.var 15)) (.bin (.lt) (.var 15) (.un (.len) (.un (.cell 4) (.var 0))))) <|
        .call 32 37 (.cons (.var 14) (.cons (.un (.cell 0) (.bin (.idx) (.un (.cell 4) (.var 0)) (.var 15))) (.nil))) [(.bin (.and) (.un (.cell 3) (.bin (.idx) (.un (.cell 4) (.var 0)) (.var 15))) (.un (.not) (.un (.cell 4) (.bin (.idx) (.un (.cell 4) (.var 0)) (.var 15)))), true)] <|
        .branch (.bin (.and) (.bin (.and) (.un (.cell 3) (.bin (.idx) (.un (.cell 4) (.var 0)) (.var 15))) (.un (.not) (.un (.cell 4) (.bin (.idx) (.un (.cell 4) (.var 0)) (.var 15))))) (.un (.not) (.var 32))) (
          .room [] (.bin (.cat) (.var 14) (.cons (.un (.cell 0) (.bin (.idx) (.un (.cell 4) (.var 0)) (.var 15))) (.nil))) 8 <|
          .again 0 [.bin (.cat) (.var 14) (.cons (.un (.cell 0) (.bin (.idx) (.un (.cell 4) (.var 0)) (.var 15))) (.nil)), .bin (.add .i64) (.var 15) (.kint .i64 (1))])
          (
          .again 0 [.var 14, .bin (.add .i64) (.var 15) (.kint .i64 (1))]))
        (
        .ret (.var 14))))
def vc18 : VC :=
  .ret (.un (.fnc 29) (.cons (.un (.ptrc) (.cons (.un (.cell 0) (.var 1)) (.cons (.un (.cell 1) (.var 1)) (.cons (.un (.cell 2) (.var 1)) (.cons (.un (.cell 3) (.var 1)) (.cons (.un (.cell 4) (.var 1)) (.cons (.un (.cell 5) (.var 1)) (.cons (.un (.cell 6) (.var 1)) (.nil))))))))) (.cons (.un (.ptrc) (.cons (.un (.cell 0) (.var 0)) (.cons (.un (.cell 1) (.var 0)) (.cons (.un (.cell 2) (.var 0)) (.cons (.un (.cell 3) (.var 0)) (.cons (.un (.cell 4) (.var 0)) (.cons (.un (.cell 5) (.var 0)) (.cons (.un (.cell 6) (.var 0)) (.cons (.un (.cell 7) (.var 0)) (.cons (.un (.cell 8) (.var 0)) (.nil))))))))))) (.nil))))
def vc12 : VC :=
  .loop 7 [.nil, .kint .i64 (0)] [.list (.agg (.cons (.int .i64) (.cons (.int .i64) (.nil)))), .int .i64] (
    .branch (.bin (.and) (.bin (.lt) (.var 8) (.un (.len) (.un (.cell 4) (.var 1)))) (.un (.not) (.un (.cell 6) (.var 1)))) (
      .branch (.bin (.ne) (.un (.cell 1) (.var 1)) (.kint .i64 (3))) (
        .loop 23 [.var 7, .kint .i64 (0)] [.list (.agg (.cons (.int .i64) (.cons (.int .i64) (.nil)))), .int .i64] (
          .obl [] (.bin (.and) (.bin (.le) (.kint .i64 (0)) (.var 8)) (.bin (.lt) (.var 8) (.un (.len) (.un (.cell 4) (.var 1))))) <|
          .branch (.bin (.and) (.bin (.lt) (.var 24) (.un (.cell 0) (.bin (.idx) (.un (.cell 4) (.var 1)) (.var 8)))) (.bin (.lt) (.var 24) (.kint .i64 (4)))) (
            .room [] (.bin (.cat) (.var 23) (.cons (.un (.agg) (.cons (.var 8) (.cons (.var 24) (.nil)))) (.nil))) 16 <|
            .again 0 [.bin (.cat) (.var 23) (.cons (.un (.agg) (.cons (.var 8) (.cons (.var 24) (.nil)))) (.nil)), .bin (.add .i64) (.var 24) (.kint .i64 (1))])
            (
            .again 1 [.var 23, .bin (.add .i64) (.var 8) (.kint .i64 (1))])))
        (
        .loop 24 [.nil, .var 7, .kint .i64 (0)] [.list (.int .i64), .list (.agg (.cons (.int .i64) (.cons (.int .i64) (.nil)))), .int .i64] (
          .branch (.bin (.lt) (.var 26) (.un (.len) (.un (.cell 4) (.var 0)))) (
            .obl [] (.bin (.and) (.bin (.le) (.kint .i64 (0)) (.var 26)) (.bin (.lt) (.var 26) (.un (.len) (.un (.cell 4) (.var 0))))) <|
            .call 42 25 (.cons (.var 24) (.cons (.un (.cell 0) (.bin (.idx) (.un (.cell 4) (.var 0)) (.var 26))) (.nil))) [] <|
            .branch (.bin (.and) (.bin (.and) (.un (.cell 3) (.bin (.idx) (.un (.cell 4) (.var 0)) (.var 26))) (.un (.not) (.un (.cell 4) (.bin (.idx) (.un (.cell 4) (.var 0)) (.var 26))))) (.un (.not) (.var 42))) (
              .room [] (.bin (.cat) (.var 24) (.cons (.un (.cell 0) (.bin (.idx) (.un (.cell 4) (.var 0)) (.var 26))) (.nil))) 8 <|
              .room [] (.bin (.cat) (.var 25) (.cons (.un (.agg) (.cons (.var 8) (.cons (.un (.cell 0) (.bin (.idx) (.un (.cell 4) (.var 0)) (.var 26))) (.nil)))) (.nil))) 16 <|
              .again 0 [.bin (.cat) (.var 24) (.cons (.un (.cell 0) (.bin (.idx) (.un (.cell 4) (.var 0)) (.var 26))) (.nil)), .bin (.cat) (.var 25) (.cons (.un (.agg) (.cons (.var 8) (.cons (.un (.cell 0) (.bin (.idx) (.un (.cell 4) (.var 0)) (.var 26))) (.nil)))) (.nil)), .bin (.add .i64) (.var 26) (.kint .i64 (1))])
              (
              .again 0 [.var 24, .var 25, .bin (.add .i64) (.var 26) (.kint .i64 (1))]))
            (
            .again 1 [.var 25, .bin (.add .i64) (.var 8) (.kint .i64 (1))]))))
      (
      .ret (.var 7)))
def vc24 : VC :=
  .ret (.un (.agg) (.cons (.kint .i64 (0)) (.cons (.kint .i64 (0)) (.cons (.cons (.un (.agg) (.cons (.kint .i64 (1)) (.cons (.kint .i64 (1)) (.cons (.kint .i64 (0)) (.cons (.kint .i64 (1)) (.cons (.cons (.un (.agg) (.cons (.kint .i64 (2)) (.cons (.kint .i64 (0)) (.cons (.kint .i64 (0)) (.nil))))) (.nil)) (.cons (.kint .i64 (2)) (.cons (.kbool false) (.nil))))))))) (.nil)) (.cons (.nil) (.cons (.nil) (.cons (.cons (.un (.agg) (.cons (.kint .i64 (5)) (.cons (.kint .i64 (1)) (.cons (.kint .i64 (1)) (.cons (.kint .i64 (0)) (.cons (.kint .i64 (0)) (.cons (.kint .i64 (0)) (.cons (.kint .i64 (0)) (.cons (.kint .i64 (0)) (.cons (.kint .i64 (0)) (.cons (.kbool false) (.cons (.kint .i64 (2)) (.nil))))))))))))) (.cons (.un (.agg) (.cons (.kint .i64 (6)) (.cons (.kint .i64 (1)) (.cons (.kint .i64 (1)) (.cons (.kint .i64 (0)) (.cons (.kint .i64 (1)) (.cons (.kint .i64 (0)) (.cons (.kint .i64 (0)) (.cons (.kint .i64 (0)) (.cons (.kint .i64 (0)) (.cons (.kbool false) (.cons (.kint .i64 (2)) (.nil))))))))))))) (.nil))) (.cons (.nil) (.cons (.nil) (.cons (.nil) (.nil)))))))))))
def vc21 : VC :=
  .call 13 18 (.cons (.un (.agg) (.cons (.un (.cell 0) (.var 0)) (.cons (.un (.cell 1) (.var 0)) (.cons (.un (.cell 2) (.var 0)) (.cons (.un (.cell 3) (.var 0)) (.cons (.un (.cell 4) (.var 0)) (.cons (.un (.cell 5) (.var 0)) (.cons (.un (.cell 6) (.var 0)) (.cons (.un (.cell 7) (.var 0)) (.cons (.un (.cell 8) (.var 0)) (.nil))))))))))) (.cons (.un (.agg) (.cons (.un (.cell 0) (.var 1)) (.cons (.un (.cell 1) (.var 1)) (.cons (.un (.cell 2) (.var 1)) (.cons (.un (.cell 3) (.var 1)) (.cons (.un (.cell 4) (.var 1)) (.cons (.un (.cell 5) (.var 1)) (.cons (.un (.cell 6) (.var 1)) (.nil))))))))) (.nil))) [] <|
  .range 14 29 (.cons (.un (.cell 0) (.var 13)) (.cons (.un (.cell 1) (.var 13)) (.nil))) [.kint .i64 (0)] [.int .i64] (.agg (.cons (.int .i64) (.cons (.int .i64) (.nil)))) (
    .call 25 22 (.cons (.un (.agg) (.cons (.un (.cell 0) (.var 0)) (.cons (.un (.cell 1) (.var 0)) (.cons (.un (.cell 2) (.var 0)) (.cons (.un (.cell 3) (.var 0)) (.cons (.un (.cell 4) (.var 0)) (.cons (.un (.cell 5) (.var 0)) (.cons (.un (.cell 6) (.var 0)) (.cons (.un (.cell 7) (.var 0)) (.cons (.un (.cell 8) (.var 0)) (.nil))))))))))) (.cons (.un (.cell 0) (.var 1)) (.cons (.un (.cell 0) (.var 15)) (.cons (.un (.cell 1) (.var 15)) (.nil))))) [] <|
    .obl [(.bin (.or) (.bin (.lt) (.var 25) (.kint .i64 (0))) (.bin (.has) (.var 3) (.var 25)), false)] (.bin (.and) (.bin (.le) (.kint .i64 (0)) (.var 25)) (.bin (.lt) (.var 25) (.un (.len) (.un (.cell 5) (.var 0))))) <|
    .obl [(.bin (.or) (.bin (.or) (.bin (.lt) (.var 25) (.kint .i64 (0))) (.bin (.has) (.var 3) (.var 25))) (.un (.cell 9) (.bin (.idx) (.un (.cell 5) (.var 0)) (.var 25))), false)] (.bin (.and) (.bin (.le) (.kint .i64 (0)) (.var 25)) (.bin (.lt) (.var 25) (.un (.len) (.un (.cell 5) (.var 0))))) <|
    .obl [(.bin (.eq) (.un (.cell 2) (.bin (.idx) (.un (.cell 5) (.var 0)) (.var 25))) (.un (.cell 5) (.var 1)), true), (.bin (.or) (.bin (.or) (.bin (.lt) (.var 25) (.kint .i64 (0))) (.bin (.has) (.var 3) (.var 25))) (.un (.cell 9) (.bin (.idx) (.un (.cell 5) (.var 0)) (.var 25))), false)] (.bin (.and) (.bin (.le) (.kint .i64 (0)) (.var 25)) (.bin (.lt) (.var 25) (.un (.len) (.un (.cell 5) (.var 0))))) <|
    .branch (.bin (.or) (.bin (.or) (.bin (.or) (.bin (.lt) (.var 25) (.kint .i64 (0))) (.bin (.has) (.var 3) (.var 25))) (.un (.cell 9) (.bin (.idx) (.un (.cell 5) (.var 0)) (.var 25)))) (.bin (.and) (.bin (.eq) (.un (.cell 2) (.bin (.idx) (.un (.cell 5) (.var 0)) (.var 25))) (.un (.cell 5) (.var 1))) (.bin (.ne) (.un (.cell 10) (.bin (.idx) (.un (.cell 5) (.var 0)) (.var 25))) (.kint .i64 (2))))) (
      .again 0 [.bin (.add .i64) (.var 14) (.kint .i64 (1))])
      (
      .again 0 [.var 14]))
    (
    .call 17 18 (.cons (.un (.agg) (.cons (.un (.cell 0) (.var 0)) (.cons (.un (.cell 1) (.var 0)) (.cons (.un (.cell 2) (.var 0)) (.cons (.un (.cell 3) (.var 0)) (.cons (.un (.cell 4) (.var 0)) (.cons (.un (.cell 5) (.var 0)) (.cons (.un (.cell 6) (.var 0)) (.cons (.un (.cell 7) (.var 0)) (.cons (.un (.cell 8) (.var 0)) (.nil))))))))))) (.cons (.un (.agg) (.cons (.un (.cell 0) (.var 1)) (.cons (.un (.cell 1) (.var 1)) (.cons (.un (.cell 2) (.var 1)) (.cons (.un (.cell 3) (.var 1)) (.cons (.un (.cell 4) (.var 1)) (.cons (.un (.cell 5) (.var 1)) (.cons (.un (.cell 6) (.var 1)) (.nil))))))))) (.nil))) [] <|
    .range 18 29 (.cons (.un (.cell 0) (.var 17)) (.cons (.un (.cell 1) (.var 17)) (.nil))) [.var 2, .var 3, .var 14] [.list (.int .i64), .list (.int .i64), .int .i64] (.agg (.cons (.int .i64) (.cons (.int .i64) (.nil)))) (
      .branch (.bin (.ge) (.var 20) (.un (.cell 3) (.var 1))) (
        .ret (.var 18))
        (
        .call 35 22 (.cons (.un (.agg) (.cons (.un (.cell 0) (.var 0)) (.cons (.un (.cell 1) (.var 0)) (.cons (.un (.cell 2) (.var 0)) (.cons (.un (.cell 3) (.var 0)) (.cons (.un (.cell 4) (.var 0)) (.cons (.un (.cell 5) (.var 0)) (.cons (.un (.cell 6) (.var 0)) (.cons (.un (.cell 7) (.var 0)) (.cons (.un (.cell 8) (.var 0)) (.nil))))))))))) (.cons (.un (.cell 0) (.var 1)) (.cons (.un (.cell 0) (.var 21)) (.cons (.un (.cell 1) (.var 21)) (.nil))))) [] <|
        .obl [(.bin (.or) (.bin (.lt) (.var 35) (.kint .i64 (0))) (.bin (.has) (.var 19) (.var 35)), false)] (.bin (.and) (.bin (.le) (.kint .i64 (0)) (.var 35)) (.bin (.lt) (.var 35) (.un (.len) (.un (.cell 5) (.var 0))))) <|
        .obl [(.bin (.or) (.bin (.or) (.bin (.lt) (.var 35) (.kint .i64 (0))) (.bin (.has) (.var 19) (.var 35))) (.un (.cell 9) (.bin (.idx) (.un (.cell 5) (.var 0)) (.var 35))), false)] (.bin (.and) (.bin (.le) (.kint .i64 (0)) (.var 35)) (.bin (.lt) (.var 35) (.un (.len) (.un (.cell 5) (.var 0))))) <|
        .branch (.bin (.or) (.bin (.or) (.bin (.or) (.bin (.lt) (.var 35) (.kint .i64 (0))) (.bin (.has) (.var 19) (.var 35))) (.un (.cell 9) (.bin (.idx) (.un (.cell 5) (.var 0)) (.var 35)))) (.bin (.eq) (.un (.cell 2) (.bin (.idx) (.un (.cell 5) (.var 0)) (.var 35))) (.un (.cell 5) (.var 1)))) (
          .again 0 [.var 18, .var 19, .var 20])
          (
          .obl [] (.bin (.and) (.bin (.le) (.kint .i64 (0)) (.var 35)) (.bin (.lt) (.var 35) (.un (.len) (.un (.cell 5) (.var 0))))) <|
          .room [] (.bin (.cat) (.var 18) (.cons (.un (.cell 0) (.bin (.idx) (.un (.cell 5) (.var 0)) (.var 35))) (.nil))) 8 <|
          .room [] (.cons (.var 35) (.var 19)) 8 <|
          .again 0 [.bin (.cat) (.var 18) (.cons (.un (.cell 0) (.bin (.idx) (.un (.cell 5) (.var 0)) (.var 35))) (.nil)), .cons (.var 35) (.var 19), .bin (.add .i64) (.var 20) (.kint .i64 (1))])))
      (
      .ret (.var 18)))
def vc8 : VC :=
  .call 7 17 (.cons (.un (.agg) (.cons (.un (.cell 0) (.var 0)) (.cons (.un (.cell 1) (.var 0)) (.cons (.un (.cell 2) (.var 0)) (.cons (.un (.cell 3) (.var 0)) (.cons (.un (.cell 4) (.var 0)) (.cons (.un (.cell 5) (.var 0)) (.cons (.un (.cell 6) (.var 0)) (.cons (.un (.cell 7) (.var 0)) (.cons (.un (.cell 8) (.var 0)) (.nil))))))))))) (.cons (.var 1) (.nil))) [] <|
  .branch (.bin (.lt) (.var 7) (.kint .i64 (0))) (
    .ret (.un (.tup) (.cons (.nil) (.cons (.nil) (.nil)))))
    (
    .obl [] (.bin (.and) (.bin (.le) (.kint .i64 (0)) (.var 7)) (.bin (.lt) (.var 7) (.un (.len) (.un (.cell 2) (.var 0))))) <|
    .call 23 18 (.cons (.un (.agg) (.cons (.un (.cell 0) (.var 0)) (.cons (.un (.cell 1) (.var 0)) (.cons (.un (.cell 2) (.var 0)) (.cons (.un (.cell 3) (.var 0)) (.cons (.un (.cell 4) (.var 0)) (.cons (.un (.cell 5) (.var 0)) (.cons (.un (.cell 6) (.var 0)) (.cons (.un (.cell 7) (.var 0)) (.cons (.un (.cell 8) (.var 0)) (.nil))))))))))) (.cons (.un (.agg) (.cons (.un (.cell 0) (.bin (.idx) (.un (.cell 2) (.var 0)) (.var 7))) (.cons (.un (.cell 1) (.bin (.idx) (.un (.cell 2) (.var 0)) (.var 7))) (.cons (.un (.cell 2) (.bin (.idx) (.un (.cell 2) (.var 0)) (.var 7))) (.cons (.un (.cell 3) (.bin (.idx) (.un (.cell 2) (.var 0)) (.var 7))) (.cons (.un (.cell 4) (.bin (.idx) (.un (.cell 2) (.var 0)) (.var 7))) (.cons (.un (.cell 5) (.bin (.idx) (.un (.cell 2) (.var 0)) (.var 7))) (.cons (.un (.cell 6) (.bin (.idx) (.un (.cell 2) (.var 0)) (.var 7))) (.nil))))))))) (.nil))) [] <|
    .range 24 29 (.cons (.un (.cell 0) (.var 23)) (.cons (.un (.cell 1) (.var 23)) (.nil))) [.nil] [.list (.agg (.cons (.int .i64) (.cons (.int .i64) (.nil))))] (.agg (.cons (.int .i64) (.cons (.int .i64) (.nil)))) (
      .room [] (.cons (.un (.agg) (.cons (.un (.cell 0) (.var 25)) (.cons (.un (.cell 1) (.var 25)) (.nil)))) (.var 24)) 16 <|
      .again 0 [.cons (.un (.agg) (.cons (.un (.cell 0) (.var 25)) (.cons (.un (.cell 1) (.var 25)) (.nil)))) (.var 24)])
      (
      .loop 32 [.nil, .kint .i64 (0), .nil] [.list (.int .i64), .int .i64, .list (.int .i64)] (
        .branch (.bin (.lt) (.var 33) (.un (.len) (.un (.cell 5) (.var 0)))) (
          .obl [] (.bin (.and) (.bin (.le) (.kint .i64 (0)) (.var 33)) (.bin (.lt) (.var 33) (.un (.len) (.un (.cell 5) (.var 0))))) <|
          .call 49 19 (.cons (.un (.agg) (.cons (.un (.cell 0) (.bin (.idx) (.un (.cell 5) (.var 0)) (.var 33))) (.cons (.un (.cell 1) (.bin (.idx) (.un (.cell 5) (.var 0)) (.var 33))) (.cons (.un (.cell 2) (.bin (.idx) (.un (.cell 5) (.var 0)) (.var 33))) (.cons (.un (.cell 3) (.bin (.idx) (.un (.cell 5) (.var 0)) (.var 33))) (.cons (.un (.cell 4) (.bin (.idx) (.un (.cell 5) (.var 0)) (.var 33))) (.cons (.un (.cell 5) (.bin (.idx) (.un (.cell 5) (.var 0)) (.var 33))) (.cons (.un (.cell 6) (.bin (.idx) (.un (.cell 5) (.var 0)) (.var 33))) (.cons (.un (.cell 7) (.bin (.idx) (.un (.cell 5) (.var 0)) (.var 33))) (.cons (.un (.cell 8) (.bin (.idx) (.un (.cell 5) (.var 0)) (.var 33))) (.cons (.un (.cell 9) (.bin (.idx) (.un (.cell 5) (.var 0)) (.var 33))) (.cons (.un (.cell 10) (.bin (.idx) (.un (.cell 5) (.var 0)) (.var 33))) (.nil))))))))))))) (.nil)) [(.bin (.ne) (.un (.cell 1) (.bin (.idx) (.un (.cell 5) (.var 0)) (.var 33))) (.un (.cell 0) (.bin (.idx) (.un (.cell 2) (.var 0)) (.var 7))), false)] <|
          .branch (.bin (.or) (.bin (.or) (.bin (.ne) (.un (.cell 1) (.bin (.idx) (.un (.cell 5) (.var 0)) (.var 33))) (.un (.cell 0) (.bin (.idx) (.un (.cell 2) (.var 0)) (.var 7)))) (.var 49)) (.un (.cell 9) (.bin (.idx) (.un (.cell 5) (.var 0)) (.var 33)))) (
            .again 0 [.var 32, .bin (.add .i64) (.var 33) (.kint .i64 (1)), .var 34])
            (
            .call 58 20 (.cons (.un (.agg) (.cons (.un (.cell 0) (.var 0)) (.cons (.un (.cell 1) (.var 0)) (.cons (.un (.cell 2) (.var 0)) (.cons (.un (.cell 3) (.var 0)) (.cons (.un (.cell 4) (.var 0)) (.cons (.un (.cell 5) (.var 0)) (.cons (.un (.cell 6) (.var 0)) (.cons (.un (.cell 7) (.var 0)) (.cons (.un (.cell 8) (.var 0)) (.nil))))))))))) (.cons (.un (.cell 5) (.bin (.idx) (.un (.cell 5) (.var 0)) (.var 33))) (.nil))) [] <|
            .obl [(.bin (.ge) (.var 58) (.kint .i64 (0)), true)] (.bin (.and) (.bin (.le) (.kint .i64 (0)) (.var 58)) (.bin (.lt) (.var 58) (.un (.len) (.un (.cell 4) (.var 0))))) <|
            .branch (.bin (.or) (.bin (.or) (.un (.not) (.bin (.has) (.var 24) (.un (.agg) (.cons (.un (.cell 3) (.bin (.idx) (.un (.cell 5) (.var 0)) (.var 33))) (.cons (.un (.cell 4) (.bin (.idx) (.un (.cell 5) (.var 0)) (.var 33))) (.nil)))))) (.bin (.and) (.bin (.ge) (.var 58) (.kint .i64 (0))) (.un (.cell 4) (.bin (.idx) (.un (.cell 4) (.var 0)) (.var 58))))) (.bin (.and) (.bin (.ne) (.un (.cell 1) (.bin (.idx) (.un (.cell 2) (.var 0)) (.var 7))) (.kint .i64 (1))) (.bin (.ne) (.un (.cell 2) (.bin (.idx) (.un (.cell 5) (.var 0)) (.var 33))) (.un (.cell 5) (.bin (.idx) (.un (.cell 2) (.var 0)) (.var 7)))))) (
              .room [] (.bin (.cat) (.var 32) (.cons (.un (.cell 0) (.bin (.idx) (.un (.cell 5) (.var 0)) (.var 33))) (.nil))) 8 <|
              .room [] (.cons (.var 33) (.var 34)) 8 <|
              .again 0 [.bin (.cat) (.var 32) (.cons (.un (.cell 0) (.bin (.idx) (.un (.cell 5) (.var 0)) (.var 33))) (.nil)), .bin (.add .i64) (.var 33) (.kint .i64 (1)), .cons (.var 33) (.var 34)])
              (
              .again 0 [.var 32, .bin (.add .i64) (.var 33) (.kint .i64 (1)), .var 34])))
          (
          .branch (.bin (.eq) (.un (.cell 1) (.bin (.idx) (.un (.cell 2) (.var 0)) (.var 7))) (.kint .i64 (1))) (
            .call 43 21 (.cons (.un (.agg) (.cons (.un (.cell 0) (.var 0)) (.cons (.un (.cell 1) (.var 0)) (.cons (.un (.cell 2) (.var 0)) (.cons (.un (.cell 3) (.var 0)) (.cons (.un (.cell 4) (.var 0)) (.cons (.un (.cell 5) (.var 0)) (.cons (.un (.cell 6) (.var 0)) (.cons (.un (.cell 7) (.var 0)) (.cons (.un (.cell 8) (.var 0)) (.nil))))))))))) (.cons (.un (.agg) (.cons (.un (.cell 0) (.bin (.idx) (.un (.cell 2) (.var 0)) (.var 7))) (.cons (.un (.cell 1) (.bin (.idx) (.un (.cell 2) (.var 0)) (.var 7))) (.cons (.un (.cell 2) (.bin (.idx) (.un (.cell 2) (.var 0)) (.var 7))) (.cons (.un (.cell 3) (.bin (.idx) (.un (.cell 2) (.var 0)) (.var 7))) (.cons (.un (.cell 4) (.bin (.idx) (.un (.cell 2) (.var 0)) (.var 7))) (.cons (.un (.cell 5) (.bin (.idx) (.un (.cell 2) (.var 0)) (.var 7))) (.cons (.un (.cell 6) (.bin (.idx) (.un (.cell 2) (.var 0)) (.var 7))) (.nil))))))))) (.cons (.var 32) (.cons (.var 34) (.nil))))) [] <|
            .call 48 18 (.cons (.un (.agg) (.cons (.un (.cell 0) (.var 0)) (.cons (.un (.cell 1) (.var 0)) (.cons (.un (.cell 2) (.var 0)) (.cons (.un (.cell 3) (.var 0)) (.cons (.un (.cell 4) (.var 0)) (.cons (.un (.cell 5) (.var 0)) (.cons (.un (.cell 6) (.var 0)) (.cons (.un (.cell 7) (.var 0)) (.cons (.un (.cell 8) (.var 0)) (.nil))))))))))) (.cons (.un (.agg) (.cons (.un (.cell 0) (.bin (.idx) (.un (.cell 2) (.var 0)) (.var 7))) (.cons (.un (.cell 1) (.bin (.idx) (.un (.cell 2) (.var 0)) (.var 7))) (.cons (.un (.cell 2) (.bin (.idx) (.un (.cell 2) (.var 0)) (.var 7))) (.cons (.un (.cell 3) (.bin (.idx) (.un (.cell 2) (.var 0)) (.var 7))) (.cons (.un (.cell 4) (.bin (.idx) (.un (.cell 2) (.var 0)) (.var 7))) (.cons (.un (.cell 5) (.bin (.idx) (.un (.cell 2) (.var 0)) (.var 7))) (.cons (.un (.cell 6) (.bin (.idx) (.un (.cell 2) (.var 0)) (.var 7))) (.nil))))))))) (.nil))) [] <|
            .range 49 29 (.cons (.un (.cell 0) (.var 48)) (.cons (.un (.cell 1) (.var 48)) (.nil))) [.nil] [.list (.agg (.cons (.int .i64) (.cons (.int .i64) (.nil))))] (.agg (.cons (.int .i64) (.cons (.int .i64) (.nil)))) (
              .call 60 22 (.cons (.un (.agg) (.cons (.un (.cell 0) (.var 0)) (.cons (.un (.cell 1) (.var 0)) (.cons (.un (.cell 2) (.var 0)) (.cons (.un (.cell 3) (.var 0)) (.cons (.un (.cell 4) (.var 0)) (.cons (.un (.cell 5) (.var 0)) (.cons (.un (.cell 6) (.var 0)) (.cons (.un (.cell 7) (.var 0)) (.cons (.un (.cell 8) (.var 0)) (.nil))))))))))) (.cons (.un (.cell 0) (.bin (.idx) (.un (.cell 2) (.var 0)) (.var 7))) (.cons (.un (.cell 0) (.var 50)) (.cons (.un (.cell 1) (.var 50)) (.nil))))) [] <|
              .call 66 23 (.cons (.un (.agg) (.cons (.un (.cell 0) (.var 0)) (.cons (.un (.cell 1) (.var 0)) (.cons (.un (.cell 2) (.var 0)) (.cons (.un (.cell 3) (.var 0)) (.cons (.un (.cell 4) (.var 0)) (.cons (.un (.cell 5) (.var 0)) (.cons (.un (.cell 6) (.var 0)) (.cons (.un (.cell 7) (.var 0)) (.cons (.un (.cell 8) (.var 0)) (.nil))))))))))) (.cons (.un (.agg) (.cons (.un (.cell 0) (.bin (.idx) (.un (.cell 2) (.var 0)) (.var 7))) (.cons (.un (.cell 1) (.bin (.idx) (.un (.cell 2) (.var 0)) (.var 7))) (.cons (.un (.cell 2) (.bin (.idx) (.un (.cell 2) (.var 0)) (.var 7))) (.cons (.un (.cell 3) (.bin (.idx) (.un (.cell 2) (.var 0)) (.var 7))) (.cons (.un (.cell 4) (.bin (.idx) (.un (.cell 2) (.var 0)) (.var 7))) (.cons (.un (.cell 5) (.bin (.idx) (.un (.cell 2) (.var 0)) (.var 7))) (.cons (.un (.cell 6) (.bin (.idx) (.un (.cell 2) (.var 0)) (.var 7))) (.nil))))))))) (.cons (.un (.agg) (.cons (.un (.cell 0) (.var 50)) (.cons (.un (.cell 1) (.var 50)) (.nil)))) (.nil)))) [(.bin (.lt) (.var 60) (.kint .i64 (0)), true)] <|
              .branch (.bin (.and) (.bin (.lt) (.var 60) (.kint .i64 (0))) (.un (.not) (.var 66))) (
                .room [] (.bin (.cat) (.var 49) (.cons (.un (.agg) (.cons (.un (.cell 0) (.var 50)) (.cons (.un (.cell 1) (.var 50)) (.nil)))) (.nil))) 16 <|
                .again 0 [.bin (.cat) (.var 49) (.cons (.un (.agg) (.cons (.un (.cell 0) (.var 50)) (.cons (.un (.cell 1) (.var 50)) (.nil)))) (.nil))])
                (
                .again 0 [.var 49]))
              (
              .ret (.un (.tup) (.cons (.var 43) (.cons (.var 49) (.nil))))))
            (
            .call 42 18 (.cons (.un (.agg) (.cons (.un (.cell 0) (.var 0)) (.cons (.un (.cell 1) (.var 0)) (.cons (.un (.cell 2) (.var 0)) (.cons (.un (.cell 3) (.var 0)) (.cons (.un (.cell 4) (.var 0)) (.cons (.un (.cell 5) (.var 0)) (.cons (.un (.cell 6) (.var 0)) (.cons (.un (.cell 7) (.var 0)) (.cons (.un (.cell 8) (.var 0)) (.nil))))))))))) (.cons (.un (.agg) (.cons (.un (.cell 0) (.bin (.idx) (.un (.cell 2) (.var 0)) (.var 7))) (.cons (.un (.cell 1) (.bin (.idx) (.un (.cell 2) (.var 0)) (.var 7))) (.cons (.un (.cell 2) (.bin (.idx) (.un (.cell 2) (.var 0)) (.var 7))) (.cons (.un (.cell 3) (.bin (.idx) (.un (.cell 2) (.var 0)) (.var 7))) (.cons (.un (.cell 4) (.bin (.idx) (.un (.cell 2) (.var 0)) (.var 7))) (.cons (.un (.cell 5) (.bin (.idx) (.un (.cell 2) (.var 0)) (.var 7))) (.cons (.un (.cell 6) (.bin (.idx) (.un (.cell 2) (.var 0)) (.var 7))) (.nil))))))))) (.nil))) [] <|
            .range 43 29 (.cons (.un (.cell 0) (.var 42)) (.cons (.un (.cell 1) (.var 42)) (.nil))) [.nil] [.list (.agg (.cons (.int .i64) (.cons (.int .i64) (.nil))))] (.agg (.cons (.int .i64) (.cons (.int .i64) (.nil)))) (
              .call 54 22 (.cons (.un (.agg) (.cons (.un (.cell 0) (.var 0)) (.cons (.un (.cell 1) (.var 0)) (.cons (.un (.cell 2) (.var 0)) (.cons (.un (.cell 3) (.var 0)) (.cons (.un (.cell 4) (.var 0)) (.cons (.un (.cell 5) (.var 0)) (.cons (.un (.cell 6) (.var 0)) (.cons (.un (.cell 7) (.var 0)) (.cons (.un (.cell 8) (.var 0)) (.nil))))))))))) (.cons (.un (.cell 0) (.bin (.idx) (.un (.cell 2) (.var 0)) (.var 7))) (.cons (.un (.cell 0) (.var 44)) (.cons (.un (.cell 1) (.var 44)) (.nil))))) [] <|
              .call 60 23 (.cons (.un (.agg) (.cons (.un (.cell 0) (.var 0)) (.cons (.un (.cell 1) (.var 0)) (.cons (.un (.cell 2) (.var 0)) (.cons (.un (.cell 3) (.var 0)) (.cons (.un (.cell 4) (.var 0)) (.cons (.un (.cell 5) (.var 0)) (.cons (.un (.cell 6) (.var 0)) (.cons (.un (.cell 7) (.var 0)) (.cons (.un (.cell 8) (.var 0)) (.nil))))))))))) (.cons (.un (.agg) (.cons (.un (.cell 0) (.bin (.idx) (.un (.cell 2) (.var 0)) (.var 7))) (.cons (.un (.cell 1) (.bin (.idx) (.un (.cell 2) (.var 0)) (.var 7))) (.cons (.un (.cell 2) (.bin (.idx) (.un (.cell 2) (.var 0)) (.var 7))) (.cons (.un (.cell 3) (.bin (.idx) (.un (.cell 2) (.var 0)) (.var 7))) (.cons (.un (.cell 4) (.bin (.idx) (.un (.cell 2) (.var 0)) (.var 7))) (.cons (.un (.cell 5) (.bin (.idx) (.un (.cell 2) (.var 0)) (.var 7))) (.cons (.un (.cell 6) (.bin (.idx) (.un (.cell 2) (.var 0)) (.var 7))) (.nil))))))))) (.cons (.un (.agg) (.cons (.un (.cell 0) (.var 44)) (.cons (.un (.cell 1) (.var 44)) (.nil)))) (.nil)))) [(.bin (.lt) (.var 54) (.kint .i64 (0)), true)] <|
              .branch (.bin (.and) (.bin (.lt) (.var 54) (.kint .i64 (0))) (.un (.not) (.var 60))) (
                .room [] (.bin (.cat) (.var 43) (.cons (.un (.agg) (.cons (.un (.cell 0) (.var 44)) (.cons (.un (.cell 1) (.var 44)) (.nil)))) (.nil))) 16 <|
                .again 0 [.bin (.cat) (.var 43) (.cons (.un (.agg) (.cons (.un (.cell 0) (.var 44)) (.cons (.un (.cell 1) (.var 44)) (.nil)))) (.nil))])
                (
                .again 0 [.var 43]))
              (
              .ret (.un (.tup) (.cons (.var 32) (.cons (.var 43) (.nil))))))))))
def vcknownX : VC :=
  .ret (.un (.agg) (.cons (.kint .i64 (0)) (.cons (.kint .i64 (0)) (.cons (.cons (.un (.agg) (.cons (.kint .i64 (1)) (.cons (.kint .i64 (1)) (.cons (.kint .i64 (0)) (.cons (.kint .i64 (1)) (.cons (.cons (.un (.agg) (.cons (.kint .i64 (2)) (.cons (.kint .i64 (0)) (.cons (.kint .i64 (0)) (.nil))))) (.nil)) (.cons (.kint .i64 (2)) (.cons (.kbool false) (.nil))))))))) (.nil)) (.cons (.nil) (.cons (.nil) (.cons (.cons (.un (.agg) (.cons (.kint .i64 (5)) (.cons (.kint .i64 (1)) (.cons (.kint .i64 (1)) (.cons (.kint .i64 (0)) (.cons (.kint .i64 (0)) (.cons (.kint .i64 (0)) (.cons (.kint .i64 (0)) (.cons (.kint .i64 (0)) (.cons (.kint .i64 (0)) (.cons (.kbool false) (.cons (.kint .i64 (2)) (.nil))))))))))))) (.cons (.un (.agg) (.cons (.kint .i64 (6)) (.cons (.kint .i64 (1)) (.cons (.kint .i64 (1)) (.cons (.kint .i64 (0)) (.cons (.kint .i64 (1)) (.cons (.kint .i64 (0)) (.cons (.kint .i64 (0)) (.cons (.kint .i64 (0)) (.cons (.kint .i64 (0)) (.cons (.kbool false) (.cons (.kint .i64 (2)) (.nil))))))))))))) (.nil))) (.cons (.nil) (.cons (.nil) (.cons (.nil) (.nil)))))))))))
def vc3 : VC :=
  .call 6 8 (.cons (.un (.agg) (.cons (.un (.cell 0) (.var 0)) (.cons (.un (.cell 1) (.var 0)) (.cons (.un (.cell 2) (.var 0)) (.cons (.un (.cell 3) (.var 0)) (.cons (.un (.cell 4) (.var 0)) (.cons (.un (.cell 5) (.var 0)) (.cons (.un (.cell 6) (.var 0)) (.cons (.un (.cell 7) (.var 0)) (.cons (.un (.cell 8) (.var 0)) (.nil))))))))))) (.cons (.var 1) (.nil))) [] <|
  .loop 13 [.kbool false, .kint .i64 (0)] [.bool, .int .i64] (
    .branch (.bin (.lt) (.var 14) (.un (.len) (.un (.cell 1) (.var 6)))) (
      .obl [] (.bin (.and) (.bin (.le) (.kint .i64 (0)) (.var 14)) (.bin (.lt) (.var 14) (.un (.len) (.un (.cell 1) (.var 6))))) <|
      .obl [] (.bin (.and) (.bin (.le) (.kint .i64 (0)) (.var 14)) (.bin (.lt) (.var 14) (.un (.len) (.un (.cell 1) (.var 6))))) <|
      .call 31 9 (.cons (.un (.agg) (.cons (.un (.cell 0) (.var 0)) (.cons (.un (.cell 1) (.var 0)) (.cons (.un (.cell 2) (.var 0)) (.cons (.un (.cell 3) (.var 0)) (.cons (.un (.cell 4) (.var 0)) (.cons (.un (.cell 5) (.var 0)) (.cons (.un (.cell 6) (.var 0)) (.cons (.un (.cell 7) (.var 0)) (.cons (.un (.cell 8) (.var 0)) (.nil))))))))))) (.cons (.var 1) (.cons (.un (.cell 0) (.bin (.idx) (.un (.cell 1) (.var 6)) (.var 14))) (.cons (.un (.cell 1) (.bin (.idx) (.un (.cell 1) (.var 6)) (.var 14))) (.nil))))) [] <|
      .branch (.bin (.ge) (.var 31) (.kint .i64 (0))) (
        .ret (.kbool false))
        (
        .loop 34 [.var 13, .kint .i64 (0)] [.bool, .int .i64] (
          .branch (.bin (.lt) (.var 35) (.var 14)) (
            .obl [] (.bin (.and) (.bin (.le) (.kint .i64 (0)) (.var 35)) (.bin (.lt) (.var 35) (.un (.len) (.un (.cell 1) (.var 6))))) <|
            .obl [] (.bin (.and) (.bin (.le) (.kint .i64 (0)) (.var 14)) (.bin (.lt) (.var 14) (.un (.len) (.un (.cell 1) (.var 6))))) <|
            .branch (.bin (.and) (.bin (.eq) (.un (.cell 0) (.bin (.idx) (.un (.cell 1) (.var 6)) (.var 35))) (.un (.cell 0) (.bin (.idx) (.un (.cell 1) (.var 6)) (.var 14)))) (.bin (.and) (.bin (.eq) (.un (.cell 1) (.bin (.idx) (.un (.cell 1) (.var 6)) (.var 35))) (.un (.cell 1) (.bin (.idx) (.un (.cell 1) (.var 6)) (.var 14)))) (.kbool true))) (
              .ret (.kbool false))
              (
              .again 0 [.var 34, .bin (.add .i64) (.var 35) (.kint .i64 (1))]))
            (
            .again 1 [.var 34, .bin (.add .i64) (.var 14) (.kint .i64 (1))]))))
      (
      .loop 20 [.var 13, .kint .i64 (0)] [.bool, .int .i64] (
        .branch (.bin (.lt) (.var 21) (.un (.len) (.un (.cell 0) (.var 6)))) (
          .loop 28 [.kbool false, .kint .i64 (0)] [.bool, .int .i64] (
            .branch (.bin (.lt) (.var 29) (.un (.len) (.un (.cell 5) (.var 0)))) (
              .obl [] (.bin (.and) (.bin (.le) (.kint .i64 (0)) (.var 29)) (.bin (.lt) (.var 29) (.un (.len) (.un (.cell 5) (.var 0))))) <|
              .obl [(.var 28, false)] (.bin (.and) (.bin (.le) (.kint .i64 (0)) (.var 21)) (.bin (.lt) (.var 21) (.un (.len) (.un (.cell 0) (.var 6))))) <|
              .again 0 [.bin (.or) (.var 28) (.bin (.and) (.bin (.and) (.bin (.and) (.bin (.eq) (.un (.cell 0) (.bin (.idx) (.un (.cell 5) (.var 0)) (.var 29))) (.bin (.idx) (.un (.cell 0) (.var 6)) (.var 21))) (.bin (.eq) (.un (.cell 1) (.bin (.idx) (.un (.cell 5) (.var 0)) (.var 29))) (.var 1))) (.bin (.lt) (.un (.cell 10) (.bin (.idx) (.un (.cell 5) (.var 0)) (.var 29))) (.kint .i64 (3)))) (.un (.not) (.un (.cell 9) (.bin (.idx) (.un (.cell 5) (.var 0)) (.var 29))))), .bin (.add .i64) (.var 29) (.kint .i64 (1))])
              (
              .branch (.un (.not) (.var 28)) (
                .ret (.kbool false))
                (
                .again 1 [.var 20, .bin (.add .i64) (.var 21) (.kint .i64 (1))]))))
          (
          .call 26 10 (.nil) [] <|
          .ret (.var 26)))))
def vc5 : VC :=
  .call 6 11 (.cons (.un (.agg) (.cons (.un (.cell 0) (.var 0)) (.cons (.un (.cell 1) (.var 0)) (.cons (.un (.cell 2) (.var 0)) (.cons (.un (.cell 3) (.var 0)) (.cons (.un (.cell 4) (.var 0)) (.cons (.un (.cell 5) (.var 0)) (.cons (.un (.cell 6) (.var 0)) (.cons (.un (.cell 7) (.var 0)) (.cons (.un (.cell 8) (.var 0)) (.nil))))))))))) (.cons (.var 1) (.nil))) [] <|
  .obl [(.bin (.lt) (.var 6) (.kint .i64 (0)), false)] (.bin (.and) (.bin (.le) (.kint .i64 (0)) (.var 6)) (.bin (.lt) (.var 6) (.un (.len) (.un (.cell 2) (.var 0))))) <|
  .branch (.bin (.or) (.bin (.lt) (.var 6) (.kint .i64 (0))) (.un (.cell 6) (.bin (.idx) (.un (.cell 2) (.var 0)) (.var 6)))) (
    .call 18 10 (.nil) [] <|
    .ret (.var 18))
    (
    .obl [] (.bin (.and) (.bin (.le) (.kint .i64 (0)) (.var 6)) (.bin (.lt) (.var 6) (.un (.len) (.un (.cell 2) (.var 0))))) <|
    .call 27 12 (.cons (.un (.agg) (.cons (.un (.cell 0) (.var 0)) (.cons (.un (.cell 1) (.var 0)) (.cons (.un (.cell 2) (.var 0)) (.cons (.un (.cell 3) (.var 0)) (.cons (.un (.cell 4) (.var 0)) (.cons (.un (.cell 5) (.var 0)) (.cons (.un (.cell 6) (.var 0)) (.cons (.un (.cell 7) (.var 0)) (.cons (.un (.cell 8) (.var 0)) (.nil))))))))))) (.cons (.un (.agg) (.cons (.un (.cell 0) (.bin (.idx) (.un (.cell 2) (.var 0)) (.var 6))) (.cons (.un (.cell 1) (.bin (.idx) (.un (.cell 2) (.var 0)) (.var 6))) (.cons (.un (.cell 2) (.bin (.idx) (.un (.cell 2) (.var 0)) (.var 6))) (.cons (.un (.cell 3) (.bin (.idx) (.un (.cell 2) (.var 0)) (.var 6))) (.cons (.un (.cell 4) (.bin (.idx) (.un (.cell 2) (.var 0)) (.var 6))) (.cons (.un (.cell 5) (.bin (.idx) (.un (.cell 2) (.var 0)) (.var 6))) (.cons (.un (.cell 6) (.bin (.idx) (.un (.cell 2) (.var 0)) (.var 6))) (.nil))))))))) (.nil))) [] <|
    .call 30 16 (.cons (.un (.agg) (.cons (.un (.cell 0) (.var 0)) (.cons (.un (.cell 1) (.var 0)) (.cons (.un (.cell 2) (.var 0)) (.cons (.un (.cell 3) (.var 0)) (.cons (.un (.cell 4) (.var 0)) (.cons (.un (.cell 5) (.var 0)) (.cons (.un (.cell 6) (.var 0)) (.cons (.un (.cell 7) (.var 0)) (.cons (.un (.cell 8) (.var 0)) (.nil))))))))))) (.nil)) [] <|
    .loop 35 [.nil, .kint .i64 (0)] [.list (.agg (.cons (.int .i64) (.cons (.int .i64) (.cons (.int .i64) (.cons (.int .i64) (.cons (.int .i64) (.cons (.int .i64) (.cons (.int .i64) (.cons (.int .i64) (.cons (.int .i64) (.cons (.bool) (.cons (.int .i64) (.nil))))))))))))), .int .i64] (
      .branch (.bin (.lt) (.var 36) (.un (.len) (.un (.cell 5) (.var 30)))) (
        .obl [] (.bin (.and) (.bin (.le) (.kint .i64 (0)) (.var 36)) (.bin (.lt) (.var 36) (.un (.len) (.un (.cell 5) (.var 30))))) <|
        .branch (.bin (.ne) (.un (.cell 1) (.bin (.idx) (.un (.cell 5) (.var 30)) (.var 36))) (.var 1)) (
          .obl [] (.bin (.and) (.bin (.le) (.kint .i64 (0)) (.var 36)) (.bin (.lt) (.var 36) (.un (.len) (.un (.cell 5) (.var 30))))) <|
          .room [] (.bin (.cat) (.var 35) (.cons (.un (.agg) (.cons (.un (.cell 0) (.bin (.idx) (.un (.cell 5) (.var 30)) (.var 36))) (.cons (.un (.cell 1) (.bin (.idx) (.un (.cell 5) (.var 30)) (.var 36))) (.cons (.un (.cell 2) (.bin (.idx) (.un (.cell 5) (.var 30)) (.var 36))) (.cons (.un (.cell 3) (.bin (.idx) (.un (.cell 5) (.var 30)) (.var 36))) (.cons (.un (.cell 4) (.bin (.idx) (.un (.cell 5) (.var 30)) (.var 36))) (.cons (.un (.cell 5) (.bin (.idx) (.un (.cell 5) (.var 30)) (.var 36))) (.cons (.un (.cell 6) (.bin (.idx) (.un (.cell 5) (.var 30)) (.var 36))) (.cons (.un (.cell 7) (.bin (.idx) (.un (.cell 5) (.var 30)) (.var 36))) (.cons (.un (.cell 8) (.bin (.idx) (.un (.cell 5) (.var 30)) (.var 36))) (.cons (.un (.cell 9) (.bin (.idx) (.un (.cell 5) (.var 30)) (.var 36))) (.cons (.un (.cell 10) (.bin (.idx) (.un (.cell 5) (.var 30)) (.var 36))) (.nil))))))))))))) (.nil))) 88 <|
          .again 0 [.bin (.cat) (.var 35) (.cons (.un (.agg) (.cons (.un (.cell 0) (.bin (.idx) (.un (.cell 5) (.var 30)) (.var 36))) (.cons (.un (.cell 1) (.bin (.idx) (.un (.cell 5) (.var 30)) (.var 36))) (.cons (.un (.cell 2) (.bin (.idx) (.un (.cell 5) (.var 30)) (.var 36))) (.cons (.un (.cell 3) (.bin (.idx) (.un (.cell 5) (.var 30)) (.var 36))) (.cons (.un (.cell 4) (.bin (.idx) (.un (.cell 5) (.var 30)) (.var 36))) (.cons (.un (.cell 5) (.bin (.idx) (.un (.cell 5) (.var 30)) (.var 36))) (.cons (.un (.cell 6) (.bin (.idx) (.un (.cell 5) (.var 30)) (.var 36))) (.cons (.un (.cell 7) (.bin (.idx) (.un (.cell 5) (.var 30)) (.var 36))) (.cons (.un (.cell 8) (.bin (.idx) (.un (.cell 5) (.var 30)) (.var 36))) (.cons (.un (.cell 9) (.bin (.idx) (.un (.cell 5) (.var 30)) (.var 36))) (.cons (.un (.cell 10) (.bin (.idx) (.un (.cell 5) (.var 30)) (.var 36))) (.nil))))))))))))) (.nil)), .bin (.add .i64) (.var 36) (.kint .i64 (1))])
          (
          .again 0 [.var 35, .bin (.add .i64) (.var 36) (.kint .i64 (1))]))
        (
        .loop 43 [.var 35, .kint .i64 (0)] [.list (.agg (.cons (.int .i64) (.cons (.int .i64) (.cons (.int .i64) (.cons (.int .i64) (.cons (.int .i64) (.cons (.int .i64) (.cons (.int .i64) (.cons (.int .i64) (.cons (.int .i64) (.cons (.bool) (.cons (.int .i64) (.nil))))))))))))), .int .i64] (
          .branch (.bin (.lt) (.var 44) (.un (.len) (.var 27))) (
            .obl [] (.bin (.and) (.bin (.le) (.kint .i64 (0)) (.var 44)) (.bin (.lt) (.var 44) (.un (.len) (.var 27)))) <|
            .obl [] (.bin (.and) (.bin (.le) (.kint .i64 (0)) (.var 44)) (.bin (.lt) (.var 44) (.un (.len) (.var 27)))) <|
            .room [] (.bin (.cat) (.var 43) (.cons (.un (.agg) (.cons (.bin (.add .i64) (.kint .i64 (1000)) (.var 44)) (.cons (.var 1) (.cons (.un (.cell 5) (.bin (.idx) (.un (.cell 2) (.var 0)) (.var 6))) (.cons (.un (.cell 0) (.bin (.idx) (.var 27) (.var 44))) (.cons (.un (.cell 1) (.bin (.idx) (.var 27) (.var 44))) (.cons (.kint .i64 (-5)) (.cons (.kint .i64 (0)) (.cons (.kint .i64 (0)) (.cons (.kint .i64 (0)) (.cons (.kbool false) (.cons (.kint .i64 (2)) (.nil))))))))))))) (.nil))) 88 <|
            .again 0 [.bin (.cat) (.var 43) (.cons (.un (.agg) (.cons (.bin (.add .i64) (.kint .i64 (1000)) (.var 44)) (.cons (.var 1) (.cons (.un (.cell 5) (.bin (.idx) (.un (.cell 2) (.var 0)) (.var 6))) (.cons (.un (.cell 0) (.bin (.idx) (.var 27) (.var 44))) (.cons (.un (.cell 1) (.bin (.idx) (.var 27) (.var 44))) (.cons (.kint .i64 (-5)) (.cons (.kint .i64 (0)) (.cons (.kint .i64 (0)) (.cons (.kint .i64 (0)) (.cons (.kbool false) (.cons (.kint .i64 (2)) (.nil))))))))))))) (.nil)), .bin (.add .i64) (.var 44) (.kint .i64 (1))])
            (
            .loop 50 [.kbool false, .kint .i64 (0)] [.bool, .int .i64] (
              .branch (.bin (.lt) (.var 51) (.un (.len) (.un (.cell 4) (.var 30)))) (
                .obl [] (.bin (.and) (.bin (.le) (.kint .i64 (0)) (.var 51)) (.bin (.lt) (.var 51) (.un (.len) (.un (.cell 4) (.var 30))))) <|
                .branch (.bin (.eq) (.un (.cell 0) (.bin (.idx) (.un (.cell 4) (.var 30)) (.var 51))) (.kint .i64 (-5))) (
                  .call 64 10 (.nil) [] <|
                  .ret (.var 64))
                  (
                  .again 0 [.var 50, .bin (.add .i64) (.var 51) (.kint .i64 (1))]))
                (
                .call 62 8 (.cons (.un (.agg) (.cons (.un (.cell 0) (.var 30)) (.cons (.un (.cell 1) (.var 30)) (.cons (.un (.cell 2) (.var 30)) (.cons (.un (.cell 3) (.var 30)) (.cons (.un (.cell 4) (.var 30)) (.cons (.var 43) (.cons (.un (.cell 6) (.var 30)) (.cons (.un (.cell 7) (.var 30)) (.cons (.un (.cell 8) (.var 30)) (.nil))))))))))) (.cons (.var 1) (.nil))) [] <|
                .call 77 10 (.nil) [(.bin (.and) (.bin (.eq) (.un (.len) (.un (.cell 0) (.var 62))) (.kint .i64 (0))) (.bin (.eq) (.un (.len) (.un (.cell 1) (.var 62))) (.kint .i64 (0))), true)] <|
                .ret (.bin (.and) (.bin (.and) (.bin (.eq) (.un (.len) (.un (.cell 0) (.var 62))) (.kint .i64 (0))) (.bin (.eq) (.un (.len) (.un (.cell 1) (.var 62))) (.kint .i64 (0)))) (.var 77)))))))))
def vccopyX : VC :=
  .loop 11 [.kint .i64 (0), .un (.cell 0) (.var 0), .un (.cell 1) (.var 0), .nil, .nil, .nil, .nil, .nil, .nil, .nil] [.int .i64, .int .i64, .int .i64, .list (.agg (.cons (.int .i64) (.cons (.int .i64) (.cons (.int .i64) (.cons (.int .i64) (.cons (.list (.agg (.cons (.int .i64) (.cons (.int .i64) (.cons (.int .i64) (.nil)))))) (.cons (.int .i64) (.cons (.bool) (.nil))))))))), .list (.agg (.cons (.int .i64) (.cons (.int .i64) (.cons (.int .i64) (.cons (.int .i64) (.cons (.list (.agg (.cons (.int .i64) (.cons (.int .i64) (.cons (.int .i64) (.nil)))))) (.cons (.int .i64) (.cons (.bool) (.nil))))))))), .list (.agg (.cons (.int .i64) (.cons (.int .i64) (.cons (.int .i64) (.cons (.bool) (.cons (.bool) (.cons (.int .i64) (.cons (.int .i64) (.cons (.int .i64) (.nil)))))))))), .list (.agg (.cons (.int .i64) (.cons (.int .i64) (.cons (.int .i64) (.cons (.int .i64) (.cons (.int .i64) (.cons (.int .i64) (.cons (.int .i64) (.cons (.int .i64) (.cons (.int .i64) (.cons (.bool) (.cons (.int .i64) (.nil))))))))))))), .list (.agg (.cons (.int .i64) (.cons (.int .i64) (.cons (.int .i64) (.cons (.int .i64) (.nil)))))), .list (.agg (.cons (.int .i64) (.cons (.int .i64) (.cons (.int .i64) (.cons (.int .i64) (.nil)))))), .list (.agg (.cons (.int .i64) (.cons (.int .i64) (.cons (.int .i64) (.cons (.int .i64) (.cons (.list (.agg (.cons (.int .i64) (.cons (.int .i64) (.cons (.int .i64) (.cons (.int .i64) (.cons (.int .i64) (.cons (.int .i64) (.cons (.int .i64) (.cons (.int .i64) (.cons (.int .i64) (.cons (.bool) (.cons (.int .i64) (.nil)))))))))))))) (.nil)))))))] (
    .branch (.bin (.lt) (.var 11) (.un (.len) (.un (.cell 2) (.var 0)))) (
      .obl [] (.bin (.and) (.bin (.le) (.kint .i64 (0)) (.var 11)) (.bin (.lt) (.var 11) (.un (.len) (.un (.cell 2) (.var 0))))) <|
      .call 33 26 (.cons (.bin (.idx) (.un (.cell 2) (.var 0)) (.var 11)) (.nil)) [] <|
      .room [] (.bin (.cat) (.var 14) (.cons (.un (.agg) (.cons (.un (.cell 0) (.var 33)) (.cons (.un (.cell 1) (.var 33)) (.cons (.un (.cell 2) (.var 33)) (.cons (.un (.cell 3) (.var 33)) (.cons (.un (.cell 4) (.var 33)) (.cons (.un (.cell 5) (.var 33)) (.cons (.un (.cell 6) (.var 33)) (.nil))))))))) (.nil))) 72 <|
      .again 0 [.bin (.add .i64) (.var 11) (.kint .i64 (1)), .var 12, .var 13, .bin (.cat) (.var 14) (.cons (.un (.agg) (.cons (.un (.cell 0) (.var 33)) (.cons (.un (.cell 1) (.var 33)) (.cons (.un (.cell 2) (.var 33)) (.cons (.un (.cell 3) (.var 33)) (.cons (.un (.cell 4) (.var 33)) (.cons (.un (.cell 5) (.var 33)) (.cons (.un (.cell 6) (.var 33)) (.nil))))))))) (.nil)), .var 15, .var 16, .var 17, .var 18, .var 19, .var 20])
      (
      .loop 27 [.kint .i64 (0), .var 12, .var 13, .var 14, .var 15, .var 16, .var 17, .var 18, .var 19, .var 20] [.int .i64, .int .i64, .int .i64, .list (.agg (.cons (.int .i64) (.cons (.int .i64) (.cons (.int .i64) (.cons (.int .i64) (.cons (.list (.agg (.cons (.int .i64) (.cons (.int .i64) (.cons (.int .i64) (.nil)))))) (.cons (.int .i64) (.cons (.bool) (.nil))))))))), .list (.agg (.cons (.int .i64) (.cons (.int .i64) (.cons (.int .i64) (.cons (.int .i64) (.cons (.list (.agg (.cons (.int .i64) (.cons (.int .i64) (.cons (.int .i64) (.nil)))))) (.cons (.int .i64) (.cons (.bool) (.nil))))))))), .list (.agg (.cons (.int .i64) (.cons (.int .i64) (.cons (.int .i64) (.cons (.bool) (.cons (.bool) (.cons (.int .i64) (.cons (.int .i64) (.cons (.int .i64) (.nil)))))))))), .list (.agg (.cons (.int .i64) (.cons (.int .i64) (.cons (.int .i64) (.cons (.int .i64) (.cons (.int .i64) (.cons (.int .i64) (.cons (.int .i64) (.cons (.int .i64) (.cons (.int .i64) (.cons (.bool) (.cons (.int .i64) (.nil))))))))))))), .list (.agg (.cons (.int .i64) (.cons (.int .i64) (.cons (.int .i64) (.cons (.int .i64) (.nil)))))), .list (.agg (.cons (.int .i64) (.cons (.int .i64) (.cons (.int .i64) (.cons (.int .i64) (.nil)))))), .list (.agg (.cons (.int .i64) (.cons (.int .i64) (.cons (.int .i64) (.cons (.int .i64) (.cons (.list (.agg (.cons (.int .i64) (.cons (.int .i64) (.cons (.int .i64) (.cons (.int .i64) (.cons (.int .i64) (.cons (.int .i64) (.cons (.int .i64) (.cons (.int .i64) (.cons (.int .i64) (.cons (.bool) (.cons (.int .i64) (.nil)))))))))))))) (.nil)))))))] (
        .branch (.bin (.lt) (.var 27) (.un (.len) (.un (.cell 3) (.var 0)))) (
          .obl [] (.bin (.and) (.bin (.le) (.kint .i64 (0)) (.var 27)) (.bin (.lt) (.var 27) (.un (.len) (.un (.cell 3) (.var 0))))) <|
          .call 49 26 (.cons (.bin (.idx) (.un (.cell 3) (.var 0)) (.var 27)) (.nil)) [] <|
          .room [] (.bin (.cat) (.var 31) (.cons (.un (.agg) (.cons (.un (.cell 0) (.var 49)) (.cons (.un (.cell 1) (.var 49)) (.cons (.un (.cell 2) (.var 49)) (.cons (.un (.cell 3) (.var 49)) (.cons (.un (.cell 4) (.var 49)) (.cons (.un (.cell 5) (.var 49)) (.cons (.un (.cell 6) (.var 49)) (.nil))))))))) (.nil))) 72 <|
          .again 0 [.bin (.add .i64) (.var 27) (.kint .i64 (1)), .var 28, .var 29, .var 30, .bin (.cat) (.var 31) (.cons (.un (.agg) (.cons (.un (.cell 0) (.var 49)) (.cons (.un (.cell 1) (.var 49)) (.cons (.un (.cell 2) (.var 49)) (.cons (.un (.cell 3) (.var 49)) (.cons (.un (.cell 4) (.var 49)) (.cons (.un (.cell 5) (.var 49)) (.cons (.un (.cell 6) (.var 49)) (.nil))))))))) (.nil)), .var 32, .var 33, .var 34, .var 35, .var 36])
          (
          .room [] (.bin (.cat) (.var 32) (.un (.cell 4) (.var 0))) 56 <|
          .room [] (.bin (.cat) (.var 33) (.un (.cell 5) (.var 0))) 88 <|
          .room [] (.bin (.cat) (.var 34) (.un (.cell 6) (.var 0))) 32 <|
          .room [] (.bin (.cat) (.var 35) (.un (.cell 7) (.var 0))) 32 <|
          .loop 71 [.kint .i64 (0), .var 28, .var 29, .var 30, .var 31, .bin (.cat) (.var 32) (.un (.cell 4) (.var 0)), .bin (.cat) (.var 33) (.un (.cell 5) (.var 0)), .bin (.cat) (.var 34) (.un (.cell 6) (.var 0)), .bin (.cat) (.var 35) (.un (.cell 7) (.var 0)), .var 36] [.int .i64, .int .i64, .int .i64, .list (.agg (.cons (.int .i64) (.cons (.int .i64) (.cons (.int .i64) (.cons (.int .i64) (.cons (.list (.agg (.cons (.int .i64) (.cons (.int .i64) (.cons (.int .i64) (.nil)))))) (.cons (.int .i64) (.cons (.bool) (.nil))))))))), .list (.agg (.cons (.int .i64) (.cons (.int .i64) (.cons (.int .i64) (.cons (.int .i64) (.cons (.list (.agg (.cons (.int .i64) (.cons (.int .i64) (.cons (.int .i64) (.nil)))))) (.cons (.int .i64) (.cons (.bool) (.nil))))))))), .list (.agg (.cons (.int .i64) (.cons (.int .i64) (.cons (.int .i64) (.cons (.bool) (.cons (.bool) (.cons (.int .i64) (.cons (.int .i64) (.cons (.int .i64) (.nil)))))))))), .list (.agg (.cons (.int .i64) (.cons (.int .i64) (.cons (.int .i64) (.cons (.int .i64) (.cons (.int .i64) (.cons (.int .i64) (.cons (.int .i64) (.cons (.int .i64) (.cons (.int .i64) (.cons (.bool) (.cons (.int .i64) (.nil))))))))))))), .list (.agg (.cons (.int .i64) (.cons (.int .i64) (.cons (.int .i64) (.cons (.int .i64) (.nil)))))), .list (.agg (.cons (.int .i64) (.cons (.int .i64) (.cons (.int .i64) (.cons (.int .i64) (.nil)))))), .list (.agg (.cons (.int .i64) (.cons (.int .i64) (.cons (.int .i64) (.cons (.int .i64) (.cons (.list (.agg (.cons (.int .i64) (.cons (.int .i64) (.cons (.int .i64) (.cons (.int .i64) (.cons (.int .i64) (.cons (.int .i64) (.cons (.int .i64) (.cons (.int .i64) (.cons (.int .i64) (.cons (.bool) (.cons (.int .i64) (.nil)))))))))))))) (.nil)))))))] (
            .branch (.bin (.lt) (.var 71) (.un (.len) (.un (.cell 8) (.var 0)))) (
              .obl [] (.bin (.and) (.bin (.le) (.kint .i64 (0)) (.var 71)) (.bin (.lt) (.var 71) (.un (.len) (.un (.cell 8) (.var 0))))) <|
              .room [] (.bin (.cat) (.nil) (.un (.cell 4) (.bin (.idx) (.un (.cell 8) (.var 0)) (.var 71)))) 88 <|
              .room [] (.bin (.cat) (.var 80) (.cons (.un (.agg) (.cons (.un (.cell 0) (.bin (.idx) (.un (.cell 8) (.var 0)) (.var 71))) (.cons (.un (.cell 1) (.bin (.idx) (.un (.cell 8) (.var 0)) (.var 71))) (.cons (.un (.cell 2) (.bin (.idx) (.un (.cell 8) (.var 0)) (.var 71))) (.cons (.un (.cell 3) (.bin (.idx) (.un (.cell 8) (.var 0)) (.var 71))) (.cons (.bin (.cat) (.nil) (.un (.cell 4) (.bin (.idx) (.un (.cell 8) (.var 0)) (.var 71)))) (.nil))))))) (.nil))) 56 <|
              .again 0 [.bin (.add .i64) (.var 71) (.kint .i64 (1)), .var 72, .var 73, .var 74, .var 75, .var 76, .var 77, .var 78, .var 79, .bin (.cat) (.var 80) (.cons (.un (.agg) (.cons (.un (.cell 0) (.bin (.idx) (.un (.cell 8) (.var 0)) (.var 71))) (.cons (.un (.cell 1) (.bin (.idx) (.un (.cell 8) (.var 0)) (.var 71))) (.cons (.un (.cell 2) (.bin (.idx) (.un (.cell 8) (.var 0)) (.var 71))) (.cons (.un (.cell 3) (.bin (.idx) (.un (.cell 8) (.var 0)) (.var 71))) (.cons (.bin (.cat) (.nil) (.un (.cell 4) (.bin (.idx) (.un (.cell 8) (.var 0)) (.var 71)))) (.nil))))))) (.nil))])
              (
              .ret (.un (.agg) (.cons (.var 72) (.cons (.var 73) (.cons (.var 74) (.cons (.var 75) (.cons (.var 76) (.cons (.var 77) (.cons (.var 78) (.cons (.var 79) (.cons (.var 80) (.nil)))))))))))))))))
def vc15 : VC :=
  .call 8 12 (.cons (.un (.agg) (.cons (.un (.cell 0) (.var 0)) (.cons (.un (.cell 1) (.var 0)) (.cons (.un (.cell 2) (.var 0)) (.cons (.un (.cell 3) (.var 0)) (.cons (.un (.cell 4) (.var 0)) (.cons (.un (.cell 5) (.var 0)) (.cons (.un (.cell 6) (.var 0)) (.cons (.un (.cell 7) (.var 0)) (.cons (.un (.cell 8) (.var 0)) (.nil))))))))))) (.cons (.un (.agg) (.cons (.un (.cell 0) (.var 1)) (.cons (.un (.cell 1) (.var 1)) (.cons (.un (.cell 2) (.var 1)) (.cons (.un (.cell 3) (.var 1)) (.cons (.un (.cell 4) (.var 1)) (.cons (.un (.cell 5) (.var 1)) (.cons (.un (.cell 6) (.var 1)) (.nil))))))))) (.nil))) [] <|
  .loop 11 [.kint .i64 (0), .kint .i64 (0)] [.int .i64, .int .i64] (
    .branch (.bin (.lt) (.var 12) (.un (.len) (.var 8))) (
      .obl [] (.bin (.and) (.bin (.le) (.kint .i64 (0)) (.var 12)) (.bin (.lt) (.var 12) (.un (.len) (.var 8)))) <|
      .obl [] (.bin (.and) (.bin (.le) (.kint .i64 (0)) (.var 12)) (.bin (.lt) (.var 12) (.un (.len) (.var 8)))) <|
      .call 30 9 (.cons (.un (.agg) (.cons (.un (.cell 0) (.var 0)) (.cons (.un (.cell 1) (.var 0)) (.cons (.un (.cell 2) (.var 0)) (.cons (.un (.cell 3) (.var 0)) (.cons (.un (.cell 4) (.var 0)) (.cons (.un (.cell 5) (.var 0)) (.cons (.un (.cell 6) (.var 0)) (.cons (.un (.cell 7) (.var 0)) (.cons (.un (.cell 8) (.var 0)) (.nil))))))))))) (.cons (.un (.cell 0) (.var 1)) (.cons (.un (.cell 0) (.bin (.idx) (.var 8) (.var 12))) (.cons (.un (.cell 1) (.bin (.idx) (.var 8) (.var 12))) (.nil))))) [] <|
      .obl [(.bin (.lt) (.var 30) (.kint .i64 (0)), false)] (.bin (.and) (.bin (.le) (.kint .i64 (0)) (.var 30)) (.bin (.lt) (.var 30) (.un (.len) (.un (.cell 5) (.var 0))))) <|
      .obl [(.bin (.or) (.bin (.lt) (.var 30) (.kint .i64 (0))) (.un (.cell 9) (.bin (.idx) (.un (.cell 5) (.var 0)) (.var 30))), false)] (.bin (.and) (.bin (.le) (.kint .i64 (0)) (.var 30)) (.bin (.lt) (.var 30) (.un (.len) (.un (.cell 5) (.var 0))))) <|
      .obl [(.bin (.eq) (.un (.cell 2) (.bin (.idx) (.un (.cell 5) (.var 0)) (.var 30))) (.un (.cell 5) (.var 1)), true), (.bin (.or) (.bin (.lt) (.var 30) (.kint .i64 (0))) (.un (.cell 9) (.bin (.idx) (.un (.cell 5) (.var 0)) (.var 30))), false)] (.bin (.and) (.bin (.le) (.kint .i64 (0)) (.var 30)) (.bin (.lt) (.var 30) (.un (.len) (.un (.cell 5) (.var 0))))) <|
      .branch (.bin (.or) (.bin (.or) (.bin (.lt) (.var 30) (.kint .i64 (0))) (.un (.cell 9) (.bin (.idx) (.un (.cell 5) (.var 0)) (.var 30)))) (.bin (.and) (.bin (.eq) (.un (.cell 2) (.bin (.idx) (.un (.cell 5) (.var 0)) (.var 30))) (.un (.cell 5) (.var 1))) (.bin (.ne) (.un (.cell 10) (.bin (.idx) (.un (.cell 5) (.var 0)) (.var 30))) (.kint .i64 (2))))) (
        .again 0 [.bin (.add .i64) (.var 11) (.kint .i64 (1)), .bin (.add .i64) (.var 12) (.kint .i64 (1))])
        (
        .again 0 [.var 11, .bin (.add .i64) (.var 12) (.kint .i64 (1))]))
      (
      .ret (.var 11)))
def vc6 : VC :=
  .call 6 11 (.cons (.un (.agg) (.cons (.un (.cell 0) (.var 0)) (.cons (.un (.cell 1) (.var 0)) (.cons (.un (.cell 2) (.var 0)) (.cons (.un (.cell 3) (.var 0)) (.cons (.un (.cell 4) (.var 0)) (.cons (.un (.cell 5) (.var 0)) (.cons (.un (.cell 6) (.var 0)) (.cons (.un (.cell 7) (.var 0)) (.cons (.un (.cell 8) (.var 0)) (.nil))))))))))) (.cons (.var 1) (.nil))) [] <|
  .branch (.bin (.lt) (.var 6) (.kint .i64 (0))) (
    .call 10 10 (.nil) [] <|
    .ret (.var 10))
    (
    .call 11 16 (.cons (.un (.agg) (.cons (.un (.cell 0) (.var 0)) (.cons (.un (.cell 1) (.var 0)) (.cons (.un (.cell 2) (.var 0)) (.cons (.un (.cell 3) (.var 0)) (.cons (.un (.cell 4) (.var 0)) (.cons (.un (.cell 5) (.var 0)) (.cons (.un (.cell 6) (.var 0)) (.cons (.un (.cell 7) (.var 0)) (.cons (.un (.cell 8) (.var 0)) (.nil))))))))))) (.nil)) [] <|
    .obl [] (.bin (.and) (.bin (.le) (.kint .i64 (0)) (.var 6)) (.bin (.lt) (.var 6) (.un (.len) (.un (.cell 2) (.var 11))))) <|
    .call 22 8 (.cons (.un (.agg) (.cons (.un (.cell 0) (.var 11)) (.cons (.un (.cell 1) (.var 11)) (.cons (.bin (.cat) (.bin (.take) (.un (.cell 2) (.var 11)) (.var 6)) (.cons (.un (.agg) (.cons (.un (.cell 0) (.bin (.idx) (.un (.cell 2) (.var 11)) (.var 6))) (.cons (.un (.cell 1) (.bin (.idx) (.un (.cell 2) (.var 11)) (.var 6))) (.cons (.un (.cell 2) (.bin (.idx) (.un (.cell 2) (.var 11)) (.var 6))) (.cons (.un (.cell 3) (.bin (.idx) (.un (.cell 2) (.var 11)) (.var 6))) (.cons (.un (.cell 4) (.bin (.idx) (.un (.cell 2) (.var 11)) (.var 6))) (.cons (.un (.cell 5) (.bin (.idx) (.un (.cell 2) (.var 11)) (.var 6))) (.cons (.kbool true) (.nil))))))))) (.bin (.drop) (.bin (.drop) (.un (.cell 2) (.var 11)) (.var 6)) (.kint .i64 (1))))) (.cons (.un (.cell 3) (.var 11)) (.cons (.un (.cell 4) (.var 11)) (.cons (.un (.cell 5) (.var 11)) (.cons (.un (.cell 6) (.var 11)) (.cons (.un (.cell 7) (.var 11)) (.cons (.un (.cell 8) (.var 11)) (.nil))))))))))) (.cons (.var 1) (.nil))) [] <|
    .loop 30 [.kbool false, .kint .i64 (0), .kint .i64 (0)] [.bool, .int .i64, .int .i64] (
      .branch (.bin (.lt) (.var 32) (.un (.len) (.un (.cell 5) (.var 11)))) (
        .obl [] (.bin (.and) (.bin (.le) (.kint .i64 (0)) (.var 32)) (.bin (.lt) (.var 32) (.un (.len) (.un (.cell 5) (.var 11))))) <|
        .branch (.bin (.and) (.bin (.and) (.bin (.eq) (.un (.cell 1) (.bin (.idx) (.un (.cell 5) (.var 11)) (.var 32))) (.var 1)) (.bin (.lt) (.un (.cell 10) (.bin (.idx) (.un (.cell 5) (.var 11)) (.var 32))) (.kint .i64 (3)))) (.un (.not) (.un (.cell 9) (.bin (.idx) (.un (.cell 5) (.var 11)) (.var 32))))) (
          .obl [(.bin (.ge) (.var 31) (.un (.len) (.un (.cell 0) (.var 22))), false)] (.bin (.and) (.bin (.le) (.kint .i64 (0)) (.var 31)) (.bin (.lt) (.var 31) (.un (.len) (.un (.cell 0) (.var 22))))) <|
          .branch (.bin (.or) (.bin (.ge) (.var 31) (.un (.len) (.un (.cell 0) (.var 22)))) (.bin (.ne) (.bin (.idx) (.un (.cell 0) (.var 22)) (.var 31)) (.un (.cell 0) (.bin (.idx) (.un (.cell 5) (.var 11)) (.var 32))))) (
            .ret (.kbool false))
            (
            .again 0 [.var 30, .bin (.add .i64) (.var 31) (.kint .i64 (1)), .bin (.add .i64) (.var 32) (.kint .i64 (1))]))
          (
          .again 0 [.var 30, .var 31, .bin (.add .i64) (.var 32) (.kint .i64 (1))]))
        (
        .call 48 10 (.nil) [(.bin (.and) (.bin (.eq) (.var 31) (.un (.len) (.un (.cell 0) (.var 22)))) (.bin (.eq) (.un (.len) (.un (.cell 1) (.var 22))) (.kint .i64 (0))), true)] <|
        .ret (.bin (.and) (.bin (.and) (.bin (.eq) (.var 31) (.un (.len) (.un (.cell 0) (.var 22)))) (.bin (.eq) (.un (.len) (.un (.cell 1) (.var 22))) (.kint .i64 (0)))) (.var 48)))))
def vc7 : VC :=
  .call 7 13 (.cons (.un (.agg) (.cons (.un (.cell 0) (.var 0)) (.cons (.un (.cell 1) (.var 0)) (.cons (.un (.cell 2) (.var 0)) (.cons (.un (.cell 3) (.var 0)) (.cons (.un (.cell 4) (.var 0)) (.cons (.un (.cell 5) (.var 0)) (.cons (.un (.cell 6) (.var 0)) (.cons (.un (.cell 7) (.var 0)) (.cons (.un (.cell 8) (.var 0)) (.nil))))))))))) (.cons (.var 2) (.nil))) [] <|
  .branch (.bin (.lt) (.var 7) (.kint .i64 (0))) (
    .call 11 10 (.nil) [] <|
    .ret (.var 11))
    (
    .call 12 16 (.cons (.un (.agg) (.cons (.un (.cell 0) (.var 0)) (.cons (.un (.cell 1) (.var 0)) (.cons (.un (.cell 2) (.var 0)) (.cons (.un (.cell 3) (.var 0)) (.cons (.un (.cell 4) (.var 0)) (.cons (.un (.cell 5) (.var 0)) (.cons (.un (.cell 6) (.var 0)) (.cons (.un (.cell 7) (.var 0)) (.cons (.un (.cell 8) (.var 0)) (.nil))))))))))) (.nil)) [] <|
    .obl [] (.bin (.and) (.bin (.le) (.kint .i64 (0)) (.var 7)) (.bin (.lt) (.var 7) (.un (.len) (.un (.cell 4) (.var 12))))) <|
    .call 23 8 (.cons (.un (.agg) (.cons (.un (.cell 0) (.var 12)) (.cons (.un (.cell 1) (.var 12)) (.cons (.un (.cell 2) (.var 12)) (.cons (.un (.cell 3) (.var 12)) (.cons (.bin (.cat) (.bin (.take) (.un (.cell 4) (.var 12)) (.var 7)) (.cons (.un (.agg) (.cons (.un (.cell 0) (.bin (.idx) (.un (.cell 4) (.var 12)) (.var 7))) (.cons (.un (.cell 1) (.bin (.idx) (.un (.cell 4) (.var 12)) (.var 7))) (.cons (.un (.cell 2) (.bin (.idx) (.un (.cell 4) (.var 12)) (.var 7))) (.cons (.un (.cell 3) (.bin (.idx) (.un (.cell 4) (.var 12)) (.var 7))) (.cons (.kbool true) (.cons (.un (.cell 5) (.bin (.idx) (.un (.cell 4) (.var 12)) (.var 7))) (.cons (.un (.cell 6) (.bin (.idx) (.un (.cell 4) (.var 12)) (.var 7))) (.cons (.un (.cell 7) (.bin (.idx) (.un (.cell 4) (.var 12)) (.var 7))) (.nil)))))))))) (.bin (.drop) (.bin (.drop) (.un (.cell 4) (.var 12)) (.var 7)) (.kint .i64 (1))))) (.cons (.un (.cell 5) (.var 12)) (.cons (.un (.cell 6) (.var 12)) (.cons (.un (.cell 7) (.var 12)) (.cons (.un (.cell 8) (.var 12)) (.nil))))))))))) (.cons (.var 1) (.nil))) [] <|
    .call 31 11 (.cons (.un (.agg) (.cons (.un (.cell 0) (.var 12)) (.cons (.un (.cell 1) (.var 12)) (.cons (.un (.cell 2) (.var 12)) (.cons (.un (.cell 3) (.var 12)) (.cons (.bin (.cat) (.bin (.take) (.un (.cell 4) (.var 12)) (.var 7)) (.cons (.un (.agg) (.cons (.un (.cell 0) (.bin (.idx) (.un (.cell 4) (.var 12)) (.var 7))) (.cons (.un (.cell 1) (.bin (.idx) (.un (.cell 4) (.var 12)) (.var 7))) (.cons (.un (.cell 2) (.bin (.idx) (.un (.cell 4) (.var 12)) (.var 7))) (.cons (.un (.cell 3) (.bin (.idx) (.un (.cell 4) (.var 12)) (.var 7))) (.cons (.kbool true) (.cons (.un (.cell 5) (.bin (.idx) (.un (.cell 4) (.var 12)) (.var 7))) (.cons (.un (.cell 6) (.bin (.idx) (.un (.cell 4) (.var 12)) (.var 7))) (.cons (.un (.cell 7) (.bin (.idx) (.un (.cell 4) (.var 12)) (.var 7))) (.nil)))))))))) (.bin (.drop) (.bin (.drop) (.un (.cell 4) (.var 12)) (.var 7)) (.kint .i64 (1))))) (.cons (.un (.cell 5) (.var 12)) (.cons (.un (.cell 6) (.var 12)) (.cons (.un (.cell 7) (.var 12)) (.cons (.un (.cell 8) (.var 12)) (.nil))))))))))) (.cons (.var 1) (.nil))) [] <|
    .branch (.bin (.lt) (.var 31) (.kint .i64 (0))) (
      .call 37 10 (.nil) [(.bin (.eq) (.un (.len) (.un (.cell 0) (.var 23))) (.kint .i64 (0)), true)] <|
      .ret (.bin (.and) (.bin (.eq) (.un (.len) (.un (.cell 0) (.var 23))) (.kint .i64 (0))) (.var 37)))
      (
      .loop 34 [.kbool false, .kint .i64 (0)] [.bool, .int .i64] (
        .branch (.bin (.lt) (.var 35) (.un (.len) (.un (.cell 5) (.var 12)))) (
          .obl [] (.bin (.and) (.bin (.le) (.kint .i64 (0)) (.var 35)) (.bin (.lt) (.var 35) (.un (.len) (.un (.cell 5) (.var 12))))) <|
          .branch (.bin (.or) (.bin (.or) (.bin (.or) (.bin (.ne) (.un (.cell 1) (.bin (.idx) (.un (.cell 5) (.var 12)) (.var 35))) (.var 1)) (.bin (.ne) (.un (.cell 5) (.bin (.idx) (.un (.cell 5) (.var 12)) (.var 35))) (.var 2))) (.bin (.ge) (.un (.cell 10) (.bin (.idx) (.un (.cell 5) (.var 12)) (.var 35))) (.kint .i64 (3)))) (.un (.cell 9) (.bin (.idx) (.un (.cell 5) (.var 12)) (.var 35)))) (
            .again 0 [.var 34, .bin (.add .i64) (.var 35) (.kint .i64 (1))])
            (
            .loop 69 [.kbool false, .kint .i64 (0)] [.bool, .int .i64] (
              .branch (.bin (.lt) (.var 70) (.un (.len) (.un (.cell 0) (.var 23)))) (
                .obl [(.var 69, false)] (.bin (.and) (.bin (.le) (.kint .i64 (0)) (.var 70)) (.bin (.lt) (.var 70) (.un (.len) (.un (.cell 0) (.var 23))))) <|
                .again 0 [.bin (.or) (.var 69) (.bin (.eq) (.bin (.idx) (.un (.cell 0) (.var 23)) (.var 70)) (.un (.cell 0) (.bin (.idx) (.un (.cell 5) (.var 12)) (.var 35)))), .bin (.add .i64) (.var 70) (.kint .i64 (1))])
                (
                .branch (.un (.not) (.var 69)) (
                  .ret (.kbool false))
                  (
                  .again 1 [.var 34, .bin (.add .i64) (.var 35) (.kint .i64 (1))])))))
          (
          .call 41 10 (.nil) [] <|
          .ret (.var 41)))))
def vc4 : VC :=
  .call 6 11 (.cons (.un (.agg) (.cons (.un (.cell 0) (.var 0)) (.cons (.un (.cell 1) (.var 0)) (.cons (.un (.cell 2) (.var 0)) (.cons (.un (.cell 3) (.var 0)) (.cons (.un (.cell 4) (.var 0)) (.cons (.un (.cell 5) (.var 0)) (.cons (.un (.cell 6) (.var 0)) (.cons (.un (.cell 7) (.var 0)) (.cons (.un (.cell 8) (.var 0)) (.nil))))))))))) (.cons (.var 1) (.nil))) [] <|
  .obl [(.bin (.lt) (.var 6) (.kint .i64 (0)), false)] (.bin (.and) (.bin (.le) (.kint .i64 (0)) (.var 6)) (.bin (.lt) (.var 6) (.un (.len) (.un (.cell 2) (.var 0))))) <|
  .branch (.bin (.or) (.bin (.lt) (.var 6) (.kint .i64 (0))) (.bin (.ne) (.un (.cell 1) (.bin (.idx) (.un (.cell 2) (.var 0)) (.var 6))) (.kint .i64 (1)))) (
    .call 19 10 (.nil) [] <|
    .ret (.var 19))
    (
    .obl [] (.bin (.and) (.bin (.le) (.kint .i64 (0)) (.var 6)) (.bin (.lt) (.var 6) (.un (.len) (.un (.cell 2) (.var 0))))) <|
    .call 28 12 (.cons (.un (.agg) (.cons (.un (.cell 0) (.var 0)) (.cons (.un (.cell 1) (.var 0)) (.cons (.un (.cell 2) (.var 0)) (.cons (.un (.cell 3) (.var 0)) (.cons (.un (.cell 4) (.var 0)) (.cons (.un (.cell 5) (.var 0)) (.cons (.un (.cell 6) (.var 0)) (.cons (.un (.cell 7) (.var 0)) (.cons (.un (.cell 8) (.var 0)) (.nil))))))))))) (.cons (.un (.agg) (.cons (.un (.cell 0) (.bin (.idx) (.un (.cell 2) (.var 0)) (.var 6))) (.cons (.un (.cell 1) (.bin (.idx) (.un (.cell 2) (.var 0)) (.var 6))) (.cons (.un (.cell 2) (.bin (.idx) (.un (.cell 2) (.var 0)) (.var 6))) (.cons (.un (.cell 3) (.bin (.idx) (.un (.cell 2) (.var 0)) (.var 6))) (.cons (.un (.cell 4) (.bin (.idx) (.un (.cell 2) (.var 0)) (.var 6))) (.cons (.un (.cell 5) (.bin (.idx) (.un (.cell 2) (.var 0)) (.var 6))) (.cons (.un (.cell 6) (.bin (.idx) (.un (.cell 2) (.var 0)) (.var 6))) (.nil))))))))) (.nil))) [] <|
    .loop 31 [.kbool false, .kint .i64 (0)] [.bool, .int .i64] (
      .branch (.bin (.lt) (.var 32) (.un (.len) (.un (.cell 5) (.var 0)))) (
        .obl [] (.bin (.and) (.bin (.le) (.kint .i64 (0)) (.var 32)) (.bin (.lt) (.var 32) (.un (.len) (.un (.cell 5) (.var 0))))) <|
        .branch (.bin (.or) (.bin (.ne) (.un (.cell 1) (.bin (.idx) (.un (.cell 5) (.var 0)) (.var 32))) (.var 1)) (.bin (.ge) (.un (.cell 10) (.bin (.idx) (.un (.cell 5) (.var 0)) (.var 32))) (.kint .i64 (3)))) (
          .again 0 [.var 31, .bin (.add .i64) (.var 32) (.kint .i64 (1))])
          (
          .loop 56 [.kbool false, .kint .i64 (0)] [.bool, .int .i64] (
            .branch (.bin (.lt) (.var 57) (.un (.len) (.var 28))) (
              .obl [(.var 56, false)] (.bin (.and) (.bin (.le) (.kint .i64 (0)) (.var 57)) (.bin (.lt) (.var 57) (.un (.len) (.var 28)))) <|
              .obl [(.bin (.eq) (.un (.cell 0) (.bin (.idx) (.var 28) (.var 57))) (.un (.cell 3) (.bin (.idx) (.un (.cell 5) (.var 0)) (.var 32))), true), (.var 56, false)] (.bin (.and) (.bin (.le) (.kint .i64 (0)) (.var 57)) (.bin (.lt) (.var 57) (.un (.len) (.var 28)))) <|
              .again 0 [.bin (.or) (.var 56) (.bin (.and) (.bin (.eq) (.un (.cell 0) (.bin (.idx) (.var 28) (.var 57))) (.un (.cell 3) (.bin (.idx) (.un (.cell 5) (.var 0)) (.var 32)))) (.bin (.eq) (.un (.cell 1) (.bin (.idx) (.var 28) (.var 57))) (.un (.cell 4) (.bin (.idx) (.un (.cell 5) (.var 0)) (.var 32))))), .bin (.add .i64) (.var 57) (.kint .i64 (1))])
              (
              .call 65 13 (.cons (.un (.agg) (.cons (.un (.cell 0) (.var 0)) (.cons (.un (.cell 1) (.var 0)) (.cons (.un (.cell 2) (.var 0)) (.cons (.un (.cell 3) (.var 0)) (.cons (.un (.cell 4) (.var 0)) (.cons (.un (.cell 5) (.var 0)) (.cons (.un (.cell 6) (.var 0)) (.cons (.un (.cell 7) (.var 0)) (.cons (.un (.cell 8) (.var 0)) (.nil))))))))))) (.cons (.un (.cell 5) (.bin (.idx) (.un (.cell 5) (.var 0)) (.var 32))) (.nil))) [] <|
              .obl [(.bin (.ge) (.var 65) (.kint .i64 (0)), true), (.un (.not) (.var 56), false)] (.bin (.and) (.bin (.le) (.kint .i64 (0)) (.var 65)) (.bin (.lt) (.var 65) (.un (.len) (.un (.cell 4) (.var 0))))) <|
              .call 88 9 (.cons (.un (.agg) (.cons (.un (.cell 0) (.var 0)) (.cons (.un (.cell 1) (.var 0)) (.cons (.un (.cell 2) (.var 0)) (.cons (.un (.cell 3) (.var 0)) (.cons (.un (.cell 4) (.var 0)) (.cons (.un (.cell 5) (.var 0)) (.cons (.un (.cell 6) (.var 0)) (.cons (.un (.cell 7) (.var 0)) (.cons (.un (.cell 8) (.var 0)) (.nil))))))))))) (.cons (.var 1) (.cons (.un (.cell 3) (.bin (.idx) (.un (.cell 5) (.var 0)) (.var 32))) (.cons (.un (.cell 4) (.bin (.idx) (.un (.cell 5) (.var 0)) (.var 32))) (.nil))))) [(.bin (.or) (.un (.not) (.var 56)) (.bin (.and) (.bin (.ge) (.var 65) (.kint .i64 (0))) (.un (.cell 4) (.bin (.idx) (.un (.cell 4) (.var 0)) (.var 65)))), false)] <|
              .call 96 14 (.cons (.un (.agg) (.cons (.un (.cell 0) (.var 0)) (.cons (.un (.cell 1) (.var 0)) (.cons (.un (.cell 2) (.var 0)) (.cons (.un (.cell 3) (.var 0)) (.cons (.un (.cell 4) (.var 0)) (.cons (.un (.cell 5) (.var 0)) (.cons (.un (.cell 6) (.var 0)) (.cons (.un (.cell 7) (.var 0)) (.cons (.un (.cell 8) (.var 0)) (.nil))))))))))) (.cons (.un (.cell 0) (.bin (.idx) (.un (.cell 5) (.var 0)) (.var 32))) (.nil))) [(.bin (.or) (.bin (.or) (.un (.not) (.var 56)) (.bin (.and) (.bin (.ge) (.var 65) (.kint .i64 (0))) (.un (.cell 4) (.bin (.idx) (.un (.cell 4) (.var 0)) (.var 65))))) (.bin (.ne) (.var 88) (.var 32)), false)] <|
              .branch (.bin (.or) (.bin (.or) (.bin (.or) (.un (.not) (.var 56)) (.bin (.and) (.bin (.ge) (.var 65) (.kint .i64 (0))) (.un (.cell 4) (.bin (.idx) (.un (.cell 4) (.var 0)) (.var 65))))) (.bin (.ne) (.var 88) (.var 32))) (.bin (.ne) (.var 96) (.var 32))) (
                .call 100 10 (.nil) [] <|
                .ret (.var 100))
                (
                .again 1 [.var 31, .bin (.add .i64) (.var 32) (.kint .i64 (1))])))))
        (
        .call 40 15 (.cons (.un (.agg) (.cons (.un (.cell 0) (.var 0)) (.cons (.un (.cell 1) (.var 0)) (.cons (.un (.cell 2) (.var 0)) (.cons (.un (.cell 3) (.var 0)) (.cons (.un (.cell 4) (.var 0)) (.cons (.un (.cell 5) (.var 0)) (.cons (.un (.cell 6) (.var 0)) (.cons (.un (.cell 7) (.var 0)) (.cons (.un (.cell 8) (.var 0)) (.nil))))))))))) (.cons (.un (.agg) (.cons (.un (.cell 0) (.bin (.idx) (.un (.cell 2) (.var 0)) (.var 6))) (.cons (.un (.cell 1) (.bin (.idx) (.un (.cell 2) (.var 0)) (.var 6))) (.cons (.un (.cell 2) (.bin (.idx) (.un (.cell 2) (.var 0)) (.var 6))) (.cons (.un (.cell 3) (.bin (.idx) (.un (.cell 2) (.var 0)) (.var 6))) (.cons (.un (.cell 4) (.bin (.idx) (.un (.cell 2) (.var 0)) (.var 6))) (.cons (.un (.cell 5) (.bin (.idx) (.un (.cell 2) (.var 0)) (.var 6))) (.cons (.un (.cell 6) (.bin (.idx) (.un (.cell 2) (.var 0)) (.var 6))) (.nil))))))))) (.nil))) [] <|
        .call 44 8 (.cons (.un (.agg) (.cons (.un (.cell 0) (.var 0)) (.cons (.un (.cell 1) (.var 0)) (.cons (.un (.cell 2) (.var 0)) (.cons (.un (.cell 3) (.var 0)) (.cons (.un (.cell 4) (.var 0)) (.cons (.un (.cell 5) (.var 0)) (.cons (.un (.cell 6) (.var 0)) (.cons (.un (.cell 7) (.var 0)) (.cons (.un (.cell 8) (.var 0)) (.nil))))))))))) (.cons (.var 1) (.nil))) [] <|
        .call 51 16 (.cons (.un (.agg) (.cons (.un (.cell 0) (.var 0)) (.cons (.un (.cell 1) (.var 0)) (.cons (.un (.cell 2) (.var 0)) (.cons (.un (.cell 3) (.var 0)) (.cons (.un (.cell 4) (.var 0)) (.cons (.un (.cell 5) (.var 0)) (.cons (.un (.cell 6) (.var 0)) (.cons (.un (.cell 7) (.var 0)) (.cons (.un (.cell 8) (.var 0)) (.nil))))))))))) (.nil)) [] <|
        .loop 55 [.var 31, .kint .i64 (0), .un (.cell 0) (.var 51), .un (.cell 1) (.var 51), .un (.cell 5) (.var 51)] [.bool, .int .i64, .int .i64, .int .i64, .list (.agg (.cons (.int .i64) (.cons (.int .i64) (.cons (.int .i64) (.cons (.int .i64) (.cons (.int .i64) (.cons (.int .i64) (.cons (.int .i64) (.cons (.int .i64) (.cons (.int .i64) (.cons (.bool) (.cons (.int .i64) (.nil)))))))))))))] (
          .branch (.bin (.lt) (.var 56) (.un (.len) (.un (.cell 0) (.var 44)))) (
            .obl [] (.bin (.and) (.bin (.le) (.kint .i64 (0)) (.var 56)) (.bin (.lt) (.var 56) (.un (.len) (.un (.cell 0) (.var 44))))) <|
            .call 69 14 (.cons (.un (.agg) (.cons (.var 57) (.cons (.var 58) (.cons (.un (.cell 2) (.var 51)) (.cons (.un (.cell 3) (.var 51)) (.cons (.un (.cell 4) (.var 51)) (.cons (.var 59) (.cons (.un (.cell 6) (.var 51)) (.cons (.un (.cell 7) (.var 51)) (.cons (.un (.cell 8) (.var 51)) (.nil))))))))))) (.cons (.bin (.idx) (.un (.cell 0) (.var 44)) (.var 56)) (.nil))) [] <|
            .branch (.bin (.lt) (.var 69) (.kint .i64 (0))) (
              .ret (.kbool false))
              (
              .obl [] (.bin (.and) (.bin (.le) (.kint .i64 (0)) (.var 69)) (.bin (.lt) (.var 69) (.un (.len) (.var 59)))) <|
              .again 0 [.var 55, .bin (.add .i64) (.var 56) (.kint .i64 (1)), .var 57, .var 58, .bin (.cat) (.bin (.take) (.var 59) (.var 69)) (.cons (.un (.agg) (.cons (.un (.cell 0) (.bin (.idx) (.var 59) (.var 69))) (.cons (.un (.cell 1) (.bin (.idx) (.var 59) (.var 69))) (.cons (.un (.cell 2) (.bin (.idx) (.var 59) (.var 69))) (.cons (.un (.cell 3) (.bin (.idx) (.var 59) (.var 69))) (.cons (.un (.cell 4) (.bin (.idx) (.var 59) (.var 69))) (.cons (.un (.cell 5) (.bin (.idx) (.var 59) (.var 69))) (.cons (.un (.cell 6) (.bin (.idx) (.var 59) (.var 69))) (.cons (.un (.cell 7) (.bin (.idx) (.var 59) (.var 69))) (.cons (.un (.cell 8) (.bin (.idx) (.var 59) (.var 69))) (.cons (.kbool true) (.cons (.un (.cell 10) (.bin (.idx) (.var 59) (.var 69))) (.nil))))))))))))) (.bin (.drop) (.bin (.drop) (.var 59) (.var 69)) (.kint .i64 (1))))]))
            (
            .call 66 15 (.cons (.un (.agg) (.cons (.var 57) (.cons (.var 58) (.cons (.un (.cell 2) (.var 51)) (.cons (.un (.cell 3) (.var 51)) (.cons (.un (.cell 4) (.var 51)) (.cons (.var 59) (.cons (.un (.cell 6) (.var 51)) (.cons (.un (.cell 7) (.var 51)) (.cons (.un (.cell 8) (.var 51)) (.nil))))))))))) (.cons (.un (.agg) (.cons (.un (.cell 0) (.bin (.idx) (.un (.cell 2) (.var 0)) (.var 6))) (.cons (.un (.cell 1) (.bin (.idx) (.un (.cell 2) (.var 0)) (.var 6))) (.cons (.un (.cell 2) (.bin (.idx) (.un (.cell 2) (.var 0)) (.var 6))) (.cons (.un (.cell 3) (.bin (.idx) (.un (.cell 2) (.var 0)) (.var 6))) (.cons (.un (.cell 4) (.bin (.idx) (.un (.cell 2) (.var 0)) (.var 6))) (.cons (.un (.cell 5) (.bin (.idx) (.un (.cell 2) (.var 0)) (.var 6))) (.cons (.un (.cell 6) (.bin (.idx) (.un (.cell 2) (.var 0)) (.var 6))) (.nil))))))))) (.nil))) [] <|
            .call 78 10 (.nil) [(.bin (.or) (.bin (.le) (.var 66) (.un (.cell 3) (.bin (.idx) (.un (.cell 2) (.var 0)) (.var 6)))) (.bin (.le) (.var 66) (.var 40)), true)] <|
            .ret (.bin (.and) (.bin (.or) (.bin (.le) (.var 66) (.un (.cell 3) (.bin (.idx) (.un (.cell 2) (.var 0)) (.var 6)))) (.bin (.le) (.var 66) (.var 40))) (.var 78)))))))
end Go.Proofs.Ytippnelhkdjknaa
