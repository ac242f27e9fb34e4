/-
  Signatures, tables and conditions of the functions of this seat, as a program of ours printed them.
-/
import Derived.Test.YtjpkeliliahjoaaEngY
import Derived.Test.YtjpkeliliahjoaaEngW
import Derived.Test.YtjpkeliliahjoaaEngSb
import Derived.Test.YtjpkeliliahjoaaProg
namespace Go.Proofs.Ytjpkeliliahjoaa
open Go Go.Eng Go.Proofs


def resultT : Ty := .agg (.cons (.int .i64) (.cons (.int .i64) (.cons (.list allocT) (.nil))))
def askT : Ty := .agg (.cons (.int .i64) (.cons (.int .i64) (.cons (.int .i64) (.cons (.int .i64) (.cons (.int .i64) (.cons (.int .i64) (.cons (.int .i64) (.cons (.int .i64) (.cons (.int .i64) (.cons (.int .i64) (.cons (.int .i64) (.cons (.int .i64) (.cons (.bool) (.cons (.int .i64) (.nil)))))))))))))))
def s73 : Sig := ⟨[.int .i64, .int .i64, .int .i64], [(false, [(.bool, none)])], none⟩
def tb73 : List (Nat × Sig) := (73, s73) :: []
def s72 : Sig := ⟨[.int .i64, .box (.ofL [.int .i64])], [(false, [(.bool, none)])], none⟩
def tb72 : List (Nat × Sig) := (72, s72) :: tb73
def s67 : Sig := ⟨[resT, .int .i64], [(false, [(.bool, none)])], none⟩
def tb67 : List (Nat × Sig) := (67, s67) :: tb72
def s34 : Sig := ⟨[resT, resT], [(true, resT.cells.map fun c => (c, none)), (false, [(.bool, none)])], none⟩
def tb34 : List (Nat × Sig) := (34, s34) :: tb67
def s68 : Sig := ⟨[.int .i64, .int .i64], [(false, [(.int .i64, none)]), (false, [(.bool, none)])], none⟩
def tb68 : List (Nat × Sig) := (68, s68) :: tb34
def s35 : Sig := ⟨[resT, resT], [(true, resT.cells.map fun c => (c, none)), (false, [(.bool, none)])], none⟩
def tb35 : List (Nat × Sig) := (35, s35) :: tb68
def s28 : Sig := ⟨[allocT], [(false, [(.bool, none)])], none⟩
def tb28 : List (Nat × Sig) := (28, s28) :: tb35
def s29 : Sig := ⟨[allocT], [(false, [(.bool, none)])], none⟩
def tb29 : List (Nat × Sig) := (29, s29) :: tb28
def s37 : Sig := ⟨[allocT, .box (.ofL [.int .i64]), .box (.ofL [.int .i64]), .box (.ofL [.int .i64])], [(false, [(.bool, none)])], none⟩
def tb37 : List (Nat × Sig) := (37, s37) :: tb29
def sslotAt : Sig := ⟨[.list allocT, .fn 37 (.ofL [.box (.ofL [.int .i64]), .box (.ofL [.int .i64]), .box (.ofL [.int .i64])])], [(false, [(.int .i64, none)])], none⟩
def tbslotAt : List (Nat × Sig) := (36, sslotAt) :: tb37
def s12 : Sig := ⟨[storeT, .int .i64, .int .i64, .int .i64], [(false, [(.int .i64, none)])], none⟩
def tb12 : List (Nat × Sig) := (12, s12) :: tbslotAt
def s13 : Sig := ⟨[storeT, .int .i64, .int .i64, .int .i64], [(false, [(.int .i64, none)])], none⟩
def tb13 : List (Nat × Sig) := (13, s13) :: tb12
def s41 : Sig := ⟨[jobT, .box (.ofL [.int .i64])], [(false, [(.bool, none)])], none⟩
def tb41 : List (Nat × Sig) := (41, s41) :: tb13
def satJob : Sig := ⟨[.list jobT, .fn 41 (.ofL [.box (.ofL [.int .i64])])], [(false, [(.int .i64, none)])], none⟩
def tbatJob : List (Nat × Sig) := (40, satJob) :: tb41
def s16 : Sig := ⟨[storeT, .int .i64], [(false, [(.int .i64, none)])], none⟩
def tb16 : List (Nat × Sig) := (16, s16) :: tbatJob
def s17 : Sig := ⟨[storeT, .int .i64], [(false, [(.int .i64, none)])], none⟩
def tb17 : List (Nat × Sig) := (17, s17) :: tb16
def s43 : Sig := ⟨[nodeT, .box (.ofL [.int .i64])], [(false, [(.bool, none)])], none⟩
def tb43 : List (Nat × Sig) := (43, s43) :: tb17
def satNode : Sig := ⟨[.list nodeT, .fn 43 (.ofL [.box (.ofL [.int .i64])])], [(false, [(.int .i64, none)])], none⟩
def tbatNode : List (Nat × Sig) := (42, satNode) :: tb43
def s18 : Sig := ⟨[storeT, .int .i64], [(false, [(.int .i64, none)])], none⟩
def tb18 : List (Nat × Sig) := (18, s18) :: tbatNode
def s19 : Sig := ⟨[storeT, .int .i64], [(false, [(.int .i64, none)])], none⟩
def tb19 : List (Nat × Sig) := (19, s19) :: tb18
def s44 : Sig := ⟨[allocT, .box (.ofL [.int .i64])], [(false, [(.bool, none)])], none⟩
def tb44 : List (Nat × Sig) := (44, s44) :: tb19
def satAlloc : Sig := ⟨[.list allocT, .fn 44 (.ofL [.box (.ofL [.int .i64])])], [(false, [(.int .i64, none)])], none⟩
def tbatAlloc : List (Nat × Sig) := (36, satAlloc) :: tb44
def s20 : Sig := ⟨[storeT, .int .i64], [(false, [(.int .i64, none)])], none⟩
def tb20 : List (Nat × Sig) := (20, s20) :: tbatAlloc
def s21 : Sig := ⟨[storeT, .int .i64], [(false, [(.int .i64, none)])], none⟩
def tb21 : List (Nat × Sig) := (21, s21) :: tb20
def s46 : Sig := ⟨[evalT, .box (.ofL [.int .i64])], [(false, [(.bool, none)])], none⟩
def tb46 : List (Nat × Sig) := (46, s46) :: tb21
def satEval : Sig := ⟨[.list evalT, .fn 46 (.ofL [.box (.ofL [.int .i64])])], [(false, [(.int .i64, none)])], none⟩
def tbatEval : List (Nat × Sig) := (45, satEval) :: tb46
def s22 : Sig := ⟨[storeT, .int .i64], [(false, [(.int .i64, none)])], none⟩
def tb22 : List (Nat × Sig) := (22, s22) :: tbatEval
def s23 : Sig := ⟨[storeT, .int .i64], [(false, [(.int .i64, none)])], none⟩
def tb23 : List (Nat × Sig) := (23, s23) :: tb22
def s48 : Sig := ⟨[evalT, .box (.ofL [.int .i64])], [(false, [(.bool, none)])], none⟩
def tb48 : List (Nat × Sig) := (48, s48) :: tb23
def satDeploy : Sig := ⟨[.list evalT, .fn 48 (.ofL [.box (.ofL [.int .i64])])], [(false, [(.int .i64, none)])], none⟩
def tbatDeploy : List (Nat × Sig) := (47, satDeploy) :: tb48
def s24 : Sig := ⟨[storeT, .int .i64], [(false, [(.int .i64, none)])], none⟩
def tb24 : List (Nat × Sig) := (24, s24) :: tbatDeploy
def s25 : Sig := ⟨[storeT, .int .i64], [(false, [(.int .i64, none)])], none⟩
def tb25 : List (Nat × Sig) := (25, s25) :: tb24
def s49 : Sig := ⟨[jobT, .box (.ofL [.int .i64])], [(false, [(.bool, none)])], none⟩
def tb49 : List (Nat × Sig) := (49, s49) :: tb25
def satStable : Sig := ⟨[.list jobT, .fn 49 (.ofL [.box (.ofL [.int .i64])])], [(false, [(.int .i64, none)])], none⟩
def tbatStable : List (Nat × Sig) := (40, satStable) :: tb49
def s26 : Sig := ⟨[storeT, .int .i64], [(false, [(.int .i64, none)])], none⟩
def tb26 : List (Nat × Sig) := (26, s26) :: tbatStable
def s27 : Sig := ⟨[storeT, .int .i64], [(false, [(.int .i64, none)])], none⟩
def tb27 : List (Nat × Sig) := (27, s27) :: tb26
def s10 : Sig := ⟨[storeT, .int .i64], [(true, resT.cells.map fun c => (c, none))], none⟩
def tb10 : List (Nat × Sig) := (10, s10) :: tb27
def s11 : Sig := ⟨[storeT, .int .i64], [(true, resT.cells.map fun c => (c, none))], none⟩
def tb11 : List (Nat × Sig) := (11, s11) :: tb10
def s8 : Sig := ⟨[storeT, .int .i64], [(false, [(.int .i64, none)]), (false, [(.int .i64, none)])], none⟩
def tb8 : List (Nat × Sig) := (8, s8) :: tb11
def s9 : Sig := ⟨[storeT, .int .i64], [(false, [(.int .i64, none)]), (false, [(.int .i64, none)])], none⟩
def tb9 : List (Nat × Sig) := (9, s9) :: tb8
def s38 : Sig := ⟨[], [(true, storeT.cells.map fun c => (c, none))], none⟩
def tb38 : List (Nat × Sig) := (38, s38) :: tb9
def s14 : Sig := ⟨[], [(false, [(.bool, none)])], none⟩
def tb14 : List (Nat × Sig) := (14, s14) :: tb38
def s3 : Sig := ⟨[storeT, askT], [(false, [(.bool, none)])], none⟩
def tb3 : List (Nat × Sig) := (3, s3) :: tb14
def s5 : Sig := ⟨[storeT, askT], [(false, [(.bool, none)])], none⟩
def tb5 : List (Nat × Sig) := (5, s5) :: tb3
def s39 : Sig := ⟨[jobT], [(true, [(.int .i64, none), (.int .i64, none), (.int .i64, none), (.int .i64, none), (grpT, some (0, 57)), (.int .i64, none), (.bool, none)])], none⟩
def tb39 : List (Nat × Sig) := (39, s39) :: tb5
def s15 : Sig := ⟨[storeT], [(true, [(.int .i64, none), (.int .i64, none), (jobT, some (0, 55)), (jobT, some (1, 55)), (nodeT, some (2, 69)), (allocT, some (3, 33)), (evalT, some (4, 73)), (evalT, some (5, 77)), (seenT, some (6, 52))])], none⟩
def tb15 : List (Nat × Sig) := (15, s15) :: tb39
def s4 : Sig := ⟨[storeT, allocT, .int .i64], [(false, [(.bool, none)])], none⟩
def tb4 : List (Nat × Sig) := (4, s4) :: tb15
def s71 : Sig := ⟨[.list (grpT), .list (grpT)], [(false, [(.bool, none)])], none⟩
def tb71 : List (Nat × Sig) := (71, s71) :: tb4
def s61 : Sig := ⟨[.list (nodeT), .list (nodeT)], [(false, [(.bool, none)])], none⟩
def tb61 : List (Nat × Sig) := (61, s61) :: tb71
def s62 : Sig := ⟨[.list (allocT), .list (allocT)], [(false, [(.bool, none)])], none⟩
def tb62 : List (Nat × Sig) := (62, s62) :: tb61
def s63 : Sig := ⟨[.list (evalT), .list (evalT)], [(false, [(.bool, none)])], none⟩
def tb63 : List (Nat × Sig) := (63, s63) :: tb62
def s64 : Sig := ⟨[.list (evalT), .list (evalT)], [(false, [(.bool, none)])], none⟩
def tb64 : List (Nat × Sig) := (64, s64) :: tb63
def s60 : Sig := ⟨[jobT, jobT], [(false, [(.bool, none)])], none⟩
def tb60 : List (Nat × Sig) := (60, s60) :: tb64
def s66 : Sig := ⟨[seenT, seenT], [(false, [(.bool, none)])], none⟩
def tb66 : List (Nat × Sig) := (66, s66) :: tb60
def s59 : Sig := ⟨[.list jobT, .list jobT, .fn 60 .nil], [(false, [(.bool, none)])], none⟩
def tb59 : List (Nat × Sig) := (59, s59) :: tb66
def s65 : Sig := ⟨[.list seenT, .list seenT, .fn 66 .nil], [(false, [(.bool, none)])], none⟩
def tb65 : List (Nat × Sig) := (65, s65) :: tb59
def s33 : Sig := ⟨[storeT, storeT], [(false, [(.bool, none)])], none⟩
def tb33 : List (Nat × Sig) := (33, s33) :: tb65
def s70 : Sig := ⟨[jobT, jobT], [(false, [(.bool, none)])], none⟩
def tb70 : List (Nat × Sig) := (70, s70) :: tb33
def s56 : Sig := ⟨[.list (jobT), .list (jobT)], [(false, [(.bool, none)])], none⟩
def tb56 : List (Nat × Sig) := (56, s56) :: tb70
def s57 : Sig := ⟨[.list (allocT), .list (allocT)], [(false, [(.bool, none)])], none⟩
def tb57 : List (Nat × Sig) := (57, s57) :: tb56
def s58 : Sig := ⟨[resultT, resultT], [(false, [(.bool, none)])], none⟩
def tb58 : List (Nat × Sig) := (58, s58) :: tb57
def s31 : Sig := ⟨[storeT, storeT], [(false, [(.bool, none)])], none⟩
def tb31 : List (Nat × Sig) := (31, s31) :: tb58
def scopyF : Sig := ⟨[storeT], [(true, [(.int .i64, none), (.int .i64, none), (jobT, some (0, 55)), (jobT, some (1, 55)), (nodeT, some (2, 69)), (allocT, some (3, 33)), (evalT, some (4, 73)), (evalT, some (5, 77)), (seenT, some (6, 52))])], none⟩
def schangedW : Sig := ⟨[storeT, .int .i64], [(true, [(.int .i64, none), (.int .i64, none), (.list jobT, none), (.list jobT, none), (.list nodeT, none), (.list allocT, none), (.list evalT, none), (.list evalT, none), (.list seenT, none)])], none⟩
def s7 : Sig := ⟨[storeT, storeT, .int .i64], [(false, [(.bool, none)])], none⟩
def tb7 : List (Nat × Sig) := (7, s7) :: tb31
def s51 : Sig := ⟨[.list (nodeT)], [(false, [(nodeT, some (0, 69))])], none⟩
def tb51 : List (Nat × Sig) := (51, s51) :: tb7
def s52 : Sig := ⟨[.list (allocT)], [(false, [(allocT, some (0, 33))])], none⟩
def tb52 : List (Nat × Sig) := (52, s52) :: tb51
def s53 : Sig := ⟨[.list (evalT)], [(false, [(evalT, some (0, 73))])], none⟩
def tb53 : List (Nat × Sig) := (53, s53) :: tb52
def s54 : Sig := ⟨[.list (evalT)], [(false, [(evalT, some (0, 77))])], none⟩
def tb54 : List (Nat × Sig) := (54, s54) :: tb53
def s55 : Sig := ⟨[.list (seenT)], [(false, [(seenT, some (0, 52))])], none⟩
def tb55 : List (Nat × Sig) := (55, s55) :: tb54
def s74 : Sig := ⟨[.list (grpT)], [(false, [(grpT, some (0, 57))])], none⟩
def tb74 : List (Nat × Sig) := (74, s74) :: tb55
def s69 : Sig := ⟨[jobT], [(true, [(.int .i64, none), (.int .i64, none), (.int .i64, none), (.int .i64, none), (grpT, some (0, 57)), (.int .i64, none), (.bool, none)])], none⟩
def tb69 : List (Nat × Sig) := (69, s69) :: tb74
def s50 : Sig := ⟨[.list (jobT)], [(false, [(jobT, some (500, 55))])], none⟩
def tb50 : List (Nat × Sig) := (50, s50) :: tb69
def vc73 : VC :=
  .ret (.bin (.and) (.bin (.ge) (.var 0) (.var 1)) (.bin (.le) (.var 0) (.var 2)))
def vc72 : VC :=
  .call 5 73 (.cons (.var 0) (.cons (.kint .i64 (0)) (.cons (.un (.cell 0) (.un (.agg) (.var 1))) (.nil)))) [] <|
  .ret (.var 5)
def vc67 : VC :=
  .call 10 72 (.cons (.un (.cell 0) (.var 0)) (.cons (.un (.cell 0) (.un (.fnc 72) (.cons (.un (.ptrc) (.cons (.var 1) (.nil))) (.nil)))) (.nil))) [] <|
  .call 15 72 (.cons (.un (.cell 1) (.var 0)) (.cons (.un (.cell 0) (.un (.fnc 72) (.cons (.un (.ptrc) (.cons (.var 1) (.nil))) (.nil)))) (.nil))) [(.var 10, true)] <|
  .ret (.bin (.and) (.var 10) (.var 15))
def vc34 : VC :=
  .call 7 67 (.cons (.un (.agg) (.cons (.un (.cell 0) (.var 0)) (.cons (.un (.cell 1) (.var 0)) (.nil)))) (.cons (.kint .i64 (1152921504606846976)) (.nil))) [] <|
  .call 11 67 (.cons (.un (.agg) (.cons (.un (.cell 0) (.var 1)) (.cons (.un (.cell 1) (.var 1)) (.nil)))) (.cons (.kint .i64 (1152921504606846976)) (.nil))) [(.un (.not) (.var 7), false)] <|
  .branch (.bin (.or) (.un (.not) (.var 7)) (.un (.not) (.var 11))) (
    .ret (.un (.tup) (.cons (.un (.agg) (.cons (.kint .i64 (0)) (.cons (.kint .i64 (0)) (.nil)))) (.cons (.kbool false) (.nil)))))
    (
    .call 28 67 (.cons (.un (.agg) (.cons (.bin (.add .i64) (.un (.cell 0) (.var 0)) (.un (.cell 0) (.var 1))) (.cons (.bin (.add .i64) (.un (.cell 1) (.var 0)) (.un (.cell 1) (.var 1))) (.nil)))) (.cons (.kint .i64 (1152921504606846976)) (.nil))) [] <|
    .branch (.un (.not) (.var 28)) (
      .ret (.un (.tup) (.cons (.un (.agg) (.cons (.kint .i64 (0)) (.cons (.kint .i64 (0)) (.nil)))) (.cons (.kbool false) (.nil)))))
      (
      .ret (.un (.tup) (.cons (.un (.agg) (.cons (.bin (.add .i64) (.un (.cell 0) (.var 0)) (.un (.cell 0) (.var 1))) (.cons (.bin (.add .i64) (.un (.cell 1) (.var 0)) (.un (.cell 1) (.var 1))) (.nil)))) (.cons (.kbool true) (.nil))))))
def vc68 : VC :=
  .branch (.bin (.or) (.bin (.or) (.bin (.or) (.bin (.or) (.bin (.lt) (.var 0) (.kint .i64 (0))) (.bin (.gt) (.var 0) (.kint .i64 (1152921504606846976)))) (.bin (.lt) (.var 1) (.kint .i64 (0)))) (.bin (.gt) (.var 1) (.kint .i64 (1152921504606846976)))) (.bin (.gt) (.var 0) (.bin (.sub .i64) (.kint .i64 (1152921504606846976)) (.var 1)))) (
    .ret (.un (.tup) (.cons (.kint .i64 (0)) (.cons (.kbool false) (.nil)))))
    (
    .ret (.un (.tup) (.cons (.bin (.add .i64) (.var 0) (.var 1)) (.cons (.kbool true) (.nil)))))
def vc35 : VC :=
  .call 10 68 (.cons (.un (.cell 0) (.var 0)) (.cons (.un (.cell 0) (.var 1)) (.nil))) [] <|
  .call 20 68 (.cons (.un (.cell 1) (.var 0)) (.cons (.un (.cell 1) (.var 1)) (.nil))) [] <|
  .branch (.bin (.or) (.un (.not) (.un (.cell 1) (.var 10))) (.un (.not) (.un (.cell 1) (.var 20)))) (
    .ret (.un (.tup) (.cons (.un (.agg) (.cons (.kint .i64 (0)) (.cons (.kint .i64 (0)) (.nil)))) (.cons (.kbool false) (.nil)))))
    (
    .ret (.un (.tup) (.cons (.un (.agg) (.cons (.un (.cell 0) (.var 10)) (.cons (.un (.cell 0) (.var 20)) (.nil)))) (.cons (.kbool true) (.nil)))))
def vc28 : VC :=
  .ret (.bin (.ge) (.un (.cell 10) (.var 0)) (.kint .i64 (3)))
def vc29 : VC :=
  .ret (.bin (.ge) (.un (.cell 10) (.var 0)) (.kint .i64 (3)))
def vc37 : VC :=
  .call 24 28 (.cons (.un (.agg) (.cons (.un (.cell 0) (.var 0)) (.cons (.un (.cell 1) (.var 0)) (.cons (.un (.cell 2) (.var 0)) (.cons (.un (.cell 3) (.var 0)) (.cons (.un (.cell 4) (.var 0)) (.cons (.un (.cell 5) (.var 0)) (.cons (.un (.cell 6) (.var 0)) (.cons (.un (.cell 7) (.var 0)) (.cons (.un (.cell 8) (.var 0)) (.cons (.un (.cell 9) (.var 0)) (.cons (.un (.cell 10) (.var 0)) (.nil))))))))))))) (.nil)) [(.bin (.and) (.bin (.and) (.bin (.eq) (.un (.cell 1) (.var 0)) (.un (.cell 0) (.un (.agg) (.var 1)))) (.bin (.eq) (.un (.cell 3) (.var 0)) (.un (.cell 0) (.un (.agg) (.var 2))))) (.bin (.eq) (.un (.cell 4) (.var 0)) (.un (.cell 0) (.un (.agg) (.var 3)))), true)] <|
  .ret (.bin (.and) (.bin (.and) (.bin (.and) (.bin (.eq) (.un (.cell 1) (.var 0)) (.un (.cell 0) (.un (.agg) (.var 1)))) (.bin (.eq) (.un (.cell 3) (.var 0)) (.un (.cell 0) (.un (.agg) (.var 2))))) (.bin (.eq) (.un (.cell 4) (.var 0)) (.un (.cell 0) (.un (.agg) (.var 3))))) (.un (.not) (.var 24)))
def vcslotAt : VC :=
  .loop 6 [.kint .i64 (0), .kint .i64 (0)] [.int .i64, .int .i64] (
    .branch (.bin (.lt) (.var 7) (.un (.len) (.var 0))) (
      .obl [] (.bin (.and) (.bin (.le) (.kint .i64 (0)) (.var 7)) (.bin (.lt) (.var 7) (.un (.len) (.var 0)))) <|
      .call 16 37 (.cons (.bin (.idx) (.var 0) (.var 7)) (.cons (.un (.cell 0) (.var 1)) (.cons (.un (.cell 1) (.var 1)) (.cons (.un (.cell 2) (.var 1)) (.nil))))) [] <|
      .branch (.var 16) (
        .ret (.var 7))
        (
        .again 0 [.var 6, .bin (.add .i64) (.var 7) (.kint .i64 (1))]))
      (
      .ret (.kint .i64 (-1))))
def vc12 : VC :=
  .call 12 36 (.cons (.un (.cell 5) (.var 0)) (.cons (.un (.fnc 37) (.cons (.un (.ptrc) (.cons (.var 1) (.nil))) (.cons (.un (.ptrc) (.cons (.var 2) (.nil))) (.cons (.un (.ptrc) (.cons (.var 3) (.nil))) (.nil))))) (.nil))) [] <|
  .ret (.var 12)
def vc13 : VC :=
  .loop 7 [.kint .i64 (0), .kint .i64 (0)] [.int .i64, .int .i64] (
    .branch (.bin (.lt) (.var 8) (.un (.len) (.un (.cell 5) (.var 0)))) (
      .obl [] (.bin (.and) (.bin (.le) (.kint .i64 (0)) (.var 8)) (.bin (.lt) (.var 8) (.un (.len) (.un (.cell 5) (.var 0))))) <|
      .branch (.bin (.and) (.bin (.and) (.bin (.and) (.bin (.eq) (.un (.cell 1) (.bin (.idx) (.un (.cell 5) (.var 0)) (.var 8))) (.var 1)) (.bin (.eq) (.un (.cell 3) (.bin (.idx) (.un (.cell 5) (.var 0)) (.var 8))) (.var 2))) (.bin (.eq) (.un (.cell 4) (.bin (.idx) (.un (.cell 5) (.var 0)) (.var 8))) (.var 3))) (.bin (.lt) (.un (.cell 10) (.bin (.idx) (.un (.cell 5) (.var 0)) (.var 8))) (.kint .i64 (3)))) (
        .ret (.var 8))
        (
        .again 0 [.var 7, .bin (.add .i64) (.var 8) (.kint .i64 (1))]))
      (
      .ret (.kint .i64 (-1))))
def vc41 : VC :=
  .ret (.bin (.eq) (.un (.cell 0) (.var 0)) (.un (.cell 0) (.un (.agg) (.var 1))))
def vcatJob : VC :=
  .loop 6 [.kint .i64 (0), .kint .i64 (0)] [.int .i64, .int .i64] (
    .branch (.bin (.lt) (.var 7) (.un (.len) (.var 0))) (
      .obl [] (.bin (.and) (.bin (.le) (.kint .i64 (0)) (.var 7)) (.bin (.lt) (.var 7) (.un (.len) (.var 0)))) <|
      .call 16 41 (.cons (.bin (.idx) (.var 0) (.var 7)) (.cons (.un (.cell 0) (.var 1)) (.nil))) [] <|
      .branch (.var 16) (
        .ret (.var 7))
        (
        .again 0 [.var 6, .bin (.add .i64) (.var 7) (.kint .i64 (1))]))
      (
      .ret (.kint .i64 (-1))))
def vc16 : VC :=
  .call 8 40 (.cons (.un (.cell 2) (.var 0)) (.cons (.un (.fnc 41) (.cons (.un (.ptrc) (.cons (.var 1) (.nil))) (.nil))) (.nil))) [] <|
  .ret (.var 8)
def vc17 : VC :=
  .loop 5 [.kint .i64 (0), .kint .i64 (0)] [.int .i64, .int .i64] (
    .branch (.bin (.lt) (.var 6) (.un (.len) (.un (.cell 2) (.var 0)))) (
      .obl [] (.bin (.and) (.bin (.le) (.kint .i64 (0)) (.var 6)) (.bin (.lt) (.var 6) (.un (.len) (.un (.cell 2) (.var 0))))) <|
      .branch (.bin (.eq) (.un (.cell 0) (.bin (.idx) (.un (.cell 2) (.var 0)) (.var 6))) (.var 1)) (
        .ret (.var 6))
        (
        .again 0 [.var 5, .bin (.add .i64) (.var 6) (.kint .i64 (1))]))
      (
      .ret (.kint .i64 (-1))))
def vc43 : VC :=
  .ret (.bin (.eq) (.un (.cell 0) (.var 0)) (.un (.cell 0) (.un (.agg) (.var 1))))
def vcatNode : VC :=
  .loop 6 [.kint .i64 (0), .kint .i64 (0)] [.int .i64, .int .i64] (
    .branch (.bin (.lt) (.var 7) (.un (.len) (.var 0))) (
      .obl [] (.bin (.and) (.bin (.le) (.kint .i64 (0)) (.var 7)) (.bin (.lt) (.var 7) (.un (.len) (.var 0)))) <|
      .call 16 43 (.cons (.bin (.idx) (.var 0) (.var 7)) (.cons (.un (.cell 0) (.var 1)) (.nil))) [] <|
      .branch (.var 16) (
        .ret (.var 7))
        (
        .again 0 [.var 6, .bin (.add .i64) (.var 7) (.kint .i64 (1))]))
      (
      .ret (.kint .i64 (-1))))
def vc18 : VC :=
  .call 8 42 (.cons (.un (.cell 4) (.var 0)) (.cons (.un (.fnc 43) (.cons (.un (.ptrc) (.cons (.var 1) (.nil))) (.nil))) (.nil))) [] <|
  .ret (.var 8)
def vc19 : VC :=
  .loop 5 [.kint .i64 (0), .kint .i64 (0)] [.int .i64, .int .i64] (
    .branch (.bin (.lt) (.var 6) (.un (.len) (.un (.cell 4) (.var 0)))) (
      .obl [] (.bin (.and) (.bin (.le) (.kint .i64 (0)) (.var 6)) (.bin (.lt) (.var 6) (.un (.len) (.un (.cell 4) (.var 0))))) <|
      .branch (.bin (.eq) (.un (.cell 0) (.bin (.idx) (.un (.cell 4) (.var 0)) (.var 6))) (.var 1)) (
        .ret (.var 6))
        (
        .again 0 [.var 5, .bin (.add .i64) (.var 6) (.kint .i64 (1))]))
      (
      .ret (.kint .i64 (-1))))
def vc44 : VC :=
  .ret (.bin (.eq) (.un (.cell 0) (.var 0)) (.un (.cell 0) (.un (.agg) (.var 1))))
def vcatAlloc : VC :=
  .loop 6 [.kint .i64 (0), .kint .i64 (0)] [.int .i64, .int .i64] (
    .branch (.bin (.lt) (.var 7) (.un (.len) (.var 0))) (
      .obl [] (.bin (.and) (.bin (.le) (.kint .i64 (0)) (.var 7)) (.bin (.lt) (.var 7) (.un (.len) (.var 0)))) <|
      .call 16 44 (.cons (.bin (.idx) (.var 0) (.var 7)) (.cons (.un (.cell 0) (.var 1)) (.nil))) [] <|
      .branch (.var 16) (
        .ret (.var 7))
        (
        .again 0 [.var 6, .bin (.add .i64) (.var 7) (.kint .i64 (1))]))
      (
      .ret (.kint .i64 (-1))))
def vc20 : VC :=
  .call 8 36 (.cons (.un (.cell 5) (.var 0)) (.cons (.un (.fnc 44) (.cons (.un (.ptrc) (.cons (.var 1) (.nil))) (.nil))) (.nil))) [] <|
  .ret (.var 8)
def vc21 : VC :=
  .loop 5 [.kint .i64 (0), .kint .i64 (0)] [.int .i64, .int .i64] (
    .branch (.bin (.lt) (.var 6) (.un (.len) (.un (.cell 5) (.var 0)))) (
      .obl [] (.bin (.and) (.bin (.le) (.kint .i64 (0)) (.var 6)) (.bin (.lt) (.var 6) (.un (.len) (.un (.cell 5) (.var 0))))) <|
      .branch (.bin (.eq) (.un (.cell 0) (.bin (.idx) (.un (.cell 5) (.var 0)) (.var 6))) (.var 1)) (
        .ret (.var 6))
        (
        .again 0 [.var 5, .bin (.add .i64) (.var 6) (.kint .i64 (1))]))
      (
      .ret (.kint .i64 (-1))))
def vc46 : VC :=
  .ret (.bin (.eq) (.un (.cell 0) (.var 0)) (.un (.cell 0) (.un (.agg) (.var 1))))
def vcatEval : VC :=
  .loop 6 [.kint .i64 (0), .kint .i64 (0)] [.int .i64, .int .i64] (
    .branch (.bin (.lt) (.var 7) (.un (.len) (.var 0))) (
      .obl [] (.bin (.and) (.bin (.le) (.kint .i64 (0)) (.var 7)) (.bin (.lt) (.var 7) (.un (.len) (.var 0)))) <|
      .call 16 46 (.cons (.bin (.idx) (.var 0) (.var 7)) (.cons (.un (.cell 0) (.var 1)) (.nil))) [] <|
      .branch (.var 16) (
        .ret (.var 7))
        (
        .again 0 [.var 6, .bin (.add .i64) (.var 7) (.kint .i64 (1))]))
      (
      .ret (.kint .i64 (-1))))
def vc22 : VC :=
  .call 8 45 (.cons (.un (.cell 6) (.var 0)) (.cons (.un (.fnc 46) (.cons (.un (.ptrc) (.cons (.var 1) (.nil))) (.nil))) (.nil))) [] <|
  .ret (.var 8)
def vc23 : VC :=
  .loop 5 [.kint .i64 (0), .kint .i64 (0)] [.int .i64, .int .i64] (
    .branch (.bin (.lt) (.var 6) (.un (.len) (.un (.cell 6) (.var 0)))) (
      .obl [] (.bin (.and) (.bin (.le) (.kint .i64 (0)) (.var 6)) (.bin (.lt) (.var 6) (.un (.len) (.un (.cell 6) (.var 0))))) <|
      .branch (.bin (.eq) (.un (.cell 0) (.bin (.idx) (.un (.cell 6) (.var 0)) (.var 6))) (.var 1)) (
        .ret (.var 6))
        (
        .again 0 [.var 5, .bin (.add .i64) (.var 6) (.kint .i64 (1))]))
      (
      .ret (.kint .i64 (-1))))
def vc48 : VC :=
  .ret (.bin (.eq) (.un (.cell 0) (.var 0)) (.un (.cell 0) (.un (.agg) (.var 1))))
def vcatDeploy : VC :=
  .loop 6 [.kint .i64 (0), .kint .i64 (0)] [.int .i64, .int .i64] (
    .branch (.bin (.lt) (.var 7) (.un (.len) (.var 0))) (
      .obl [] (.bin (.and) (.bin (.le) (.kint .i64 (0)) (.var 7)) (.bin (.lt) (.var 7) (.un (.len) (.var 0)))) <|
      .call 16 48 (.cons (.bin (.idx) (.var 0) (.var 7)) (.cons (.un (.cell 0) (.var 1)) (.nil))) [] <|
      .branch (.var 16) (
        .ret (.var 7))
        (
        .again 0 [.var 6, .bin (.add .i64) (.var 7) (.kint .i64 (1))]))
      (
      .ret (.kint .i64 (-1))))
def vc24 : VC :=
  .call 8 47 (.cons (.un (.cell 7) (.var 0)) (.cons (.un (.fnc 48) (.cons (.un (.ptrc) (.cons (.var 1) (.nil))) (.nil))) (.nil))) [] <|
  .ret (.var 8)
def vc25 : VC :=
  .loop 5 [.kint .i64 (0), .kint .i64 (0)] [.int .i64, .int .i64] (
    .branch (.bin (.lt) (.var 6) (.un (.len) (.un (.cell 7) (.var 0)))) (
      .obl [] (.bin (.and) (.bin (.le) (.kint .i64 (0)) (.var 6)) (.bin (.lt) (.var 6) (.un (.len) (.un (.cell 7) (.var 0))))) <|
      .branch (.bin (.eq) (.un (.cell 0) (.bin (.idx) (.un (.cell 7) (.var 0)) (.var 6))) (.var 1)) (
        .ret (.var 6))
        (
        .again 0 [.var 5, .bin (.add .i64) (.var 6) (.kint .i64 (1))]))
      (
      .ret (.kint .i64 (-1))))
def vc49 : VC :=
  .ret (.bin (.eq) (.un (.cell 0) (.var 0)) (.un (.cell 0) (.un (.agg) (.var 1))))
def vcatStable : VC :=
  .loop 6 [.kint .i64 (0), .kint .i64 (0)] [.int .i64, .int .i64] (
    .branch (.bin (.lt) (.var 7) (.un (.len) (.var 0))) (
      .obl [] (.bin (.and) (.bin (.le) (.kint .i64 (0)) (.var 7)) (.bin (.lt) (.var 7) (.un (.len) (.var 0)))) <|
      .call 16 49 (.cons (.bin (.idx) (.var 0) (.var 7)) (.cons (.un (.cell 0) (.var 1)) (.nil))) [] <|
      .branch (.var 16) (
        .ret (.var 7))
        (
        .again 0 [.var 6, .bin (.add .i64) (.var 7) (.kint .i64 (1))]))
      (
      .ret (.kint .i64 (-1))))
def vc26 : VC :=
  .call 8 40 (.cons (.un (.cell 3) (.var 0)) (.cons (.un (.fnc 49) (.cons (.un (.ptrc) (.cons (.var 1) (.nil))) (.nil))) (.nil))) [] <|
  .ret (.var 8)
def vc27 : VC :=
  .loop 5 [.kint .i64 (0), .kint .i64 (0)] [.int .i64, .int .i64] (
    .branch (.bin (.lt) (.var 6) (.un (.len) (.un (.cell 3) (.var 0)))) (
      .obl [] (.bin (.and) (.bin (.le) (.kint .i64 (0)) (.var 6)) (.bin (.lt) (.var 6) (.un (.len) (.un (.cell 3) (.var 0))))) <|
      .branch (.bin (.eq) (.un (.cell 0) (.bin (.idx) (.un (.cell 3) (.var 0)) (.var 6))) (.var 1)) (
        .ret (.var 6))
        (
        .again 0 [.var 5, .bin (.add .i64) (.var 6) (.kint .i64 (1))]))
      (
      .ret (.kint .i64 (-1))))
def vc10 : VC :=
  .loop 9 [.kint .i64 (0), .kint .i64 (0), .kint .i64 (0), .kint .i64 (0), .kint .i64 (0)] [.int .i64, .int .i64, .int .i64, .int .i64, .int .i64] (
    .branch (.bin (.lt) (.var 9) (.un (.len) (.un (.cell 5) (.var 0)))) (
      .obl [] (.bin (.and) (.bin (.le) (.kint .i64 (0)) (.var 9)) (.bin (.lt) (.var 9) (.un (.len) (.un (.cell 5) (.var 0))))) <|
      .call 25 28 (.cons (.un (.agg) (.cons (.un (.cell 0) (.bin (.idx) (.un (.cell 5) (.var 0)) (.var 9))) (.cons (.un (.cell 1) (.bin (.idx) (.un (.cell 5) (.var 0)) (.var 9))) (.cons (.un (.cell 2) (.bin (.idx) (.un (.cell 5) (.var 0)) (.var 9))) (.cons (.un (.cell 3) (.bin (.idx) (.un (.cell 5) (.var 0)) (.var 9))) (.cons (.un (.cell 4) (.bin (.idx) (.un (.cell 5) (.var 0)) (.var 9))) (.cons (.un (.cell 5) (.bin (.idx) (.un (.cell 5) (.var 0)) (.var 9))) (.cons (.un (.cell 6) (.bin (.idx) (.un (.cell 5) (.var 0)) (.var 9))) (.cons (.un (.cell 7) (.bin (.idx) (.un (.cell 5) (.var 0)) (.var 9))) (.cons (.un (.cell 8) (.bin (.idx) (.un (.cell 5) (.var 0)) (.var 9))) (.cons (.un (.cell 9) (.bin (.idx) (.un (.cell 5) (.var 0)) (.var 9))) (.cons (.un (.cell 10) (.bin (.idx) (.un (.cell 5) (.var 0)) (.var 9))) (.nil))))))))))))) (.nil)) [(.bin (.ne) (.un (.cell 5) (.bin (.idx) (.un (.cell 5) (.var 0)) (.var 9))) (.var 1), false)] <|
      .branch (.bin (.or) (.bin (.ne) (.un (.cell 5) (.bin (.idx) (.un (.cell 5) (.var 0)) (.var 9))) (.var 1)) (.var 25)) (
        .again 0 [.bin (.add .i64) (.var 9) (.kint .i64 (1)), .var 10, .var 11, .var 12, .var 13])
        (
        .call 31 34 (.cons (.un (.agg) (.cons (.var 10) (.cons (.var 11) (.nil)))) (.cons (.un (.agg) (.cons (.un (.cell 7) (.bin (.idx) (.un (.cell 5) (.var 0)) (.var 9))) (.cons (.un (.cell 8) (.bin (.idx) (.un (.cell 5) (.var 0)) (.var 9))) (.nil)))) (.nil))) [] <|
        .branch (.un (.not) (.un (.cell 1) (.var 31))) (
          .ret (.un (.agg) (.cons (.kint .i64 (1152921504606846976)) (.cons (.kint .i64 (1152921504606846976)) (.nil)))))
          (
          .again 0 [.bin (.add .i64) (.var 9) (.kint .i64 (1)), .un (.cell 0) (.un (.cell 0) (.var 31)), .un (.cell 1) (.un (.cell 0) (.var 31)), .var 12, .var 13])))
      (
      .ret (.un (.agg) (.cons (.var 10) (.cons (.var 11) (.nil))))))
def vc11 : VC :=
  .loop 8 [.kint .i64 (0), .kint .i64 (0), .kint .i64 (0), .kint .i64 (0), .kint .i64 (0)] [.int .i64, .int .i64, .int .i64, .int .i64, .int .i64] (
    .branch (.bin (.lt) (.var 8) (.un (.len) (.un (.cell 5) (.var 0)))) (
      .obl [] (.bin (.and) (.bin (.le) (.kint .i64 (0)) (.var 8)) (.bin (.lt) (.var 8) (.un (.len) (.un (.cell 5) (.var 0))))) <|
      .branch (.bin (.or) (.bin (.ne) (.un (.cell 5) (.bin (.idx) (.un (.cell 5) (.var 0)) (.var 8))) (.var 1)) (.bin (.ge) (.un (.cell 10) (.bin (.idx) (.un (.cell 5) (.var 0)) (.var 8))) (.kint .i64 (3)))) (
        .again 0 [.bin (.add .i64) (.var 8) (.kint .i64 (1)), .var 9, .var 10, .var 11, .var 12])
        (
        .call 37 35 (.cons (.un (.agg) (.cons (.var 11) (.cons (.var 12) (.nil)))) (.cons (.un (.agg) (.cons (.un (.cell 7) (.bin (.idx) (.un (.cell 5) (.var 0)) (.var 8))) (.cons (.un (.cell 8) (.bin (.idx) (.un (.cell 5) (.var 0)) (.var 8))) (.nil)))) (.nil))) [] <|
        .branch (.un (.not) (.un (.cell 1) (.var 37))) (
          .ret (.un (.agg) (.cons (.kint .i64 (1152921504606846976)) (.cons (.kint .i64 (1152921504606846976)) (.nil)))))
          (
          .again 0 [.bin (.add .i64) (.var 8) (.kint .i64 (1)), .var 9, .var 10, .un (.cell 0) (.un (.cell 0) (.var 37)), .un (.cell 1) (.un (.cell 0) (.var 37))])))
      (
      .ret (.un (.agg) (.cons (.var 11) (.cons (.var 12) (.nil))))))
def vc8 : VC :=
  .call 7 16 (.cons (.un (.agg) (.cons (.un (.cell 0) (.var 0)) (.cons (.un (.cell 1) (.var 0)) (.cons (.un (.cell 2) (.var 0)) (.cons (.un (.cell 3) (.var 0)) (.cons (.un (.cell 4) (.var 0)) (.cons (.un (.cell 5) (.var 0)) (.cons (.un (.cell 6) (.var 0)) (.cons (.un (.cell 7) (.var 0)) (.cons (.un (.cell 8) (.var 0)) (.nil))))))))))) (.cons (.var 1) (.nil))) [] <|
  .obl [(.bin (.lt) (.var 7) (.kint .i64 (0)), false)] (.bin (.and) (.bin (.le) (.kint .i64 (0)) (.var 7)) (.bin (.lt) (.var 7) (.un (.len) (.un (.cell 2) (.var 0))))) <|
  .branch (.bin (.or) (.bin (.lt) (.var 7) (.kint .i64 (0))) (.bin (.eq) (.un (.cell 1) (.bin (.idx) (.un (.cell 2) (.var 0)) (.var 7))) (.kint .i64 (3)))) (
    .ret (.un (.tup) (.cons (.kint .i64 (0)) (.cons (.kint .i64 (0)) (.nil)))))
    (
    .obl [] (.bin (.and) (.bin (.le) (.kint .i64 (0)) (.var 7)) (.bin (.lt) (.var 7) (.un (.len) (.un (.cell 2) (.var 0))))) <|
    .loop 30 [.kint .i64 (0), .kint .i64 (0), .kint .i64 (0)] [.int .i64, .int .i64, .int .i64] (
      .branch (.bin (.lt) (.var 32) (.un (.len) (.un (.cell 4) (.bin (.idx) (.un (.cell 2) (.var 0)) (.var 7))))) (
        .obl [] (.bin (.and) (.bin (.le) (.kint .i64 (0)) (.var 32)) (.bin (.lt) (.var 32) (.un (.len) (.un (.cell 4) (.bin (.idx) (.un (.cell 2) (.var 0)) (.var 7)))))) <|
        .loop 45 [.var 30, .var 31, .kint .i64 (0)] [.int .i64, .int .i64, .int .i64] (
          .branch (.bin (.lt) (.var 47) (.bin (.max .i64) (.kint .i64 (0)) (.bin (.min .i64) (.un (.cell 0) (.bin (.idx) (.un (.cell 4) (.bin (.idx) (.un (.cell 2) (.var 0)) (.var 7))) (.var 32))) (.kint .i64 (4))))) (
            .call 58 12 (.cons (.un (.agg) (.cons (.un (.cell 0) (.var 0)) (.cons (.un (.cell 1) (.var 0)) (.cons (.un (.cell 2) (.var 0)) (.cons (.un (.cell 3) (.var 0)) (.cons (.un (.cell 4) (.var 0)) (.cons (.un (.cell 5) (.var 0)) (.cons (.un (.cell 6) (.var 0)) (.cons (.un (.cell 7) (.var 0)) (.cons (.un (.cell 8) (.var 0)) (.nil))))))))))) (.cons (.var 1) (.cons (.var 32) (.cons (.var 47) (.nil))))) [] <|
            .branch (.bin (.ge) (.var 58) (.kint .i64 (0))) (
              .obl [] (.bin (.and) (.bin (.le) (.kint .i64 (0)) (.var 58)) (.bin (.lt) (.var 58) (.un (.len) (.un (.cell 5) (.var 0))))) <|
              .obl [] (.bin (.and) (.bin (.le) (.kint .i64 (0)) (.var 7)) (.bin (.lt) (.var 7) (.un (.len) (.un (.cell 2) (.var 0))))) <|
              .branch (.bin (.and) (.bin (.and) (.bin (.eq) (.un (.cell 2) (.bin (.idx) (.un (.cell 5) (.var 0)) (.var 58))) (.un (.cell 5) (.bin (.idx) (.un (.cell 2) (.var 0)) (.var 7)))) (.bin (.eq) (.un (.cell 10) (.bin (.idx) (.un (.cell 5) (.var 0)) (.var 58))) (.kint .i64 (2)))) (.un (.not) (.un (.cell 9) (.bin (.idx) (.un (.cell 5) (.var 0)) (.var 58))))) (
                .again 0 [.bin (.add .i64) (.var 45) (.kint .i64 (1)), .bin (.add .i64) (.var 46) (.kint .i64 (1)), .bin (.add .i64) (.var 47) (.kint .i64 (1))])
                (
                .again 0 [.bin (.add .i64) (.var 45) (.kint .i64 (1)), .var 46, .bin (.add .i64) (.var 47) (.kint .i64 (1))]))
              (
              .again 0 [.bin (.add .i64) (.var 45) (.kint .i64 (1)), .var 46, .bin (.add .i64) (.var 47) (.kint .i64 (1))]))
            (
            .again 1 [.var 45, .var 46, .bin (.add .i64) (.var 32) (.kint .i64 (1))])))
        (
        .ret (.un (.tup) (.cons (.var 30) (.cons (.var 31) (.nil)))))))
def vc9 : VC :=
  .call 7 17 (.cons (.un (.agg) (.cons (.un (.cell 0) (.var 0)) (.cons (.un (.cell 1) (.var 0)) (.cons (.un (.cell 2) (.var 0)) (.cons (.un (.cell 3) (.var 0)) (.cons (.un (.cell 4) (.var 0)) (.cons (.un (.cell 5) (.var 0)) (.cons (.un (.cell 6) (.var 0)) (.cons (.un (.cell 7) (.var 0)) (.cons (.un (.cell 8) (.var 0)) (.nil))))))))))) (.cons (.var 1) (.nil))) [] <|
  .obl [(.bin (.lt) (.var 7) (.kint .i64 (0)), false)] (.bin (.and) (.bin (.le) (.kint .i64 (0)) (.var 7)) (.bin (.lt) (.var 7) (.un (.len) (.un (.cell 2) (.var 0))))) <|
  .branch (.bin (.or) (.bin (.lt) (.var 7) (.kint .i64 (0))) (.bin (.eq) (.un (.cell 1) (.bin (.idx) (.un (.cell 2) (.var 0)) (.var 7))) (.kint .i64 (3)))) (
    .ret (.un (.tup) (.cons (.kint .i64 (0)) (.cons (.kint .i64 (0)) (.nil)))))
    (
    .obl [] (.bin (.and) (.bin (.le) (.kint .i64 (0)) (.var 7)) (.bin (.lt) (.var 7) (.un (.len) (.un (.cell 2) (.var 0))))) <|
    .loop 30 [.kint .i64 (0), .kint .i64 (0), .kint .i64 (0)] [.int .i64, .int .i64, .int .i64] (
      .branch (.bin (.lt) (.var 32) (.un (.len) (.un (.cell 4) (.bin (.idx) (.un (.cell 2) (.var 0)) (.var 7))))) (
        .loop 39 [.var 30, .var 31, .kint .i64 (0)] [.int .i64, .int .i64, .int .i64] (
          .obl [] (.bin (.and) (.bin (.le) (.kint .i64 (0)) (.var 32)) (.bin (.lt) (.var 32) (.un (.len) (.un (.cell 4) (.bin (.idx) (.un (.cell 2) (.var 0)) (.var 7)))))) <|
          .branch (.bin (.and) (.bin (.lt) (.var 41) (.un (.cell 0) (.bin (.idx) (.un (.cell 4) (.bin (.idx) (.un (.cell 2) (.var 0)) (.var 7))) (.var 32)))) (.bin (.lt) (.var 41) (.kint .i64 (4)))) (
            .call 61 13 (.cons (.un (.agg) (.cons (.un (.cell 0) (.var 0)) (.cons (.un (.cell 1) (.var 0)) (.cons (.un (.cell 2) (.var 0)) (.cons (.un (.cell 3) (.var 0)) (.cons (.un (.cell 4) (.var 0)) (.cons (.un (.cell 5) (.var 0)) (.cons (.un (.cell 6) (.var 0)) (.cons (.un (.cell 7) (.var 0)) (.cons (.un (.cell 8) (.var 0)) (.nil))))))))))) (.cons (.var 1) (.cons (.var 32) (.cons (.var 41) (.nil))))) [] <|
            .obl [(.bin (.ge) (.var 61) (.kint .i64 (0)), true)] (.bin (.and) (.bin (.le) (.kint .i64 (0)) (.var 61)) (.bin (.lt) (.var 61) (.un (.len) (.un (.cell 5) (.var 0))))) <|
            .obl [(.bin (.and) (.bin (.ge) (.var 61) (.kint .i64 (0))) (.bin (.eq) (.un (.cell 2) (.bin (.idx) (.un (.cell 5) (.var 0)) (.var 61))) (.un (.cell 5) (.bin (.idx) (.un (.cell 2) (.var 0)) (.var 7)))), true)] (.bin (.and) (.bin (.le) (.kint .i64 (0)) (.var 61)) (.bin (.lt) (.var 61) (.un (.len) (.un (.cell 5) (.var 0))))) <|
            .obl [(.bin (.and) (.bin (.and) (.bin (.ge) (.var 61) (.kint .i64 (0))) (.bin (.eq) (.un (.cell 2) (.bin (.idx) (.un (.cell 5) (.var 0)) (.var 61))) (.un (.cell 5) (.bin (.idx) (.un (.cell 2) (.var 0)) (.var 7))))) (.bin (.eq) (.un (.cell 10) (.bin (.idx) (.un (.cell 5) (.var 0)) (.var 61))) (.kint .i64 (2))), true)] (.bin (.and) (.bin (.le) (.kint .i64 (0)) (.var 61)) (.bin (.lt) (.var 61) (.un (.len) (.un (.cell 5) (.var 0))))) <|
            .branch (.bin (.and) (.bin (.and) (.bin (.and) (.bin (.ge) (.var 61) (.kint .i64 (0))) (.bin (.eq) (.un (.cell 2) (.bin (.idx) (.un (.cell 5) (.var 0)) (.var 61))) (.un (.cell 5) (.bin (.idx) (.un (.cell 2) (.var 0)) (.var 7))))) (.bin (.eq) (.un (.cell 10) (.bin (.idx) (.un (.cell 5) (.var 0)) (.var 61))) (.kint .i64 (2)))) (.un (.not) (.un (.cell 9) (.bin (.idx) (.un (.cell 5) (.var 0)) (.var 61))))) (
              .again 0 [.bin (.add .i64) (.var 39) (.kint .i64 (1)), .bin (.add .i64) (.var 40) (.kint .i64 (1)), .bin (.add .i64) (.var 41) (.kint .i64 (1))])
              (
              .again 0 [.bin (.add .i64) (.var 39) (.kint .i64 (1)), .var 40, .bin (.add .i64) (.var 41) (.kint .i64 (1))]))
            (
            .again 1 [.var 39, .var 40, .bin (.add .i64) (.var 32) (.kint .i64 (1))])))
        (
        .ret (.un (.tup) (.cons (.var 30) (.cons (.var 31) (.nil)))))))
def vc38 : VC :=
  .ret (.un (.agg) (.cons (.kint .i64 (0)) (.cons (.kint .i64 (0)) (.cons (.cons (.un (.agg) (.cons (.kint .i64 (1)) (.cons (.kint .i64 (1)) (.cons (.kint .i64 (0)) (.cons (.kint .i64 (0)) (.cons (.cons (.un (.agg) (.cons (.kint .i64 (2)) (.cons (.kint .i64 (0)) (.cons (.kint .i64 (0)) (.nil))))) (.nil)) (.cons (.kint .i64 (2)) (.cons (.kbool false) (.nil))))))))) (.nil)) (.cons (.nil) (.cons (.nil) (.cons (.cons (.un (.agg) (.cons (.kint .i64 (5)) (.cons (.kint .i64 (1)) (.cons (.kint .i64 (2)) (.cons (.kint .i64 (0)) (.cons (.kint .i64 (0)) (.cons (.kint .i64 (3)) (.cons (.kint .i64 (0)) (.cons (.kint .i64 (10)) (.cons (.kint .i64 (1)) (.cons (.kbool false) (.cons (.kint .i64 (2)) (.nil))))))))))))) (.cons (.un (.agg) (.cons (.kint .i64 (6)) (.cons (.kint .i64 (1)) (.cons (.kint .i64 (2)) (.cons (.kint .i64 (0)) (.cons (.kint .i64 (1)) (.cons (.kint .i64 (3)) (.cons (.kint .i64 (0)) (.cons (.kint .i64 (10)) (.cons (.kint .i64 (1)) (.cons (.kbool false) (.cons (.kint .i64 (6)) (.nil))))))))))))) (.nil))) (.cons (.nil) (.cons (.nil) (.cons (.nil) (.nil)))))))))))
def vc14 : VC :=
  .call 1 38 (.nil) [] <|
  .call 5 8 (.cons (.un (.agg) (.cons (.un (.cell 0) (.var 1)) (.cons (.un (.cell 1) (.var 1)) (.cons (.un (.cell 2) (.var 1)) (.cons (.un (.cell 3) (.var 1)) (.cons (.un (.cell 4) (.var 1)) (.cons (.un (.cell 5) (.var 1)) (.cons (.un (.cell 6) (.var 1)) (.cons (.un (.cell 7) (.var 1)) (.cons (.un (.cell 8) (.var 1)) (.nil))))))))))) (.cons (.kint .i64 (1)) (.nil))) [] <|
  .call 12 20 (.cons (.un (.agg) (.cons (.un (.cell 0) (.var 1)) (.cons (.un (.cell 1) (.var 1)) (.cons (.un (.cell 2) (.var 1)) (.cons (.un (.cell 3) (.var 1)) (.cons (.un (.cell 4) (.var 1)) (.cons (.un (.cell 5) (.var 1)) (.cons (.un (.cell 6) (.var 1)) (.cons (.un (.cell 7) (.var 1)) (.cons (.un (.cell 8) (.var 1)) (.nil))))))))))) (.cons (.kint .i64 (6)) (.nil))) [] <|
  .call 16 20 (.cons (.un (.agg) (.cons (.un (.cell 0) (.var 1)) (.cons (.un (.cell 1) (.var 1)) (.cons (.un (.cell 2) (.var 1)) (.cons (.un (.cell 3) (.var 1)) (.cons (.un (.cell 4) (.var 1)) (.cons (.un (.cell 5) (.var 1)) (.cons (.un (.cell 6) (.var 1)) (.cons (.un (.cell 7) (.var 1)) (.cons (.un (.cell 8) (.var 1)) (.nil))))))))))) (.cons (.kint .i64 (7)) (.nil))) [(.bin (.eq) (.var 12) (.kint .i64 (1)), true)] <|
  .call 21 12 (.cons (.un (.agg) (.cons (.un (.cell 0) (.var 1)) (.cons (.un (.cell 1) (.var 1)) (.cons (.un (.cell 2) (.var 1)) (.cons (.un (.cell 3) (.var 1)) (.cons (.un (.cell 4) (.var 1)) (.cons (.un (.cell 5) (.var 1)) (.cons (.un (.cell 6) (.var 1)) (.cons (.un (.cell 7) (.var 1)) (.cons (.un (.cell 8) (.var 1)) (.nil))))))))))) (.cons (.kint .i64 (1)) (.cons (.kint .i64 (0)) (.cons (.kint .i64 (0)) (.nil))))) [(.bin (.and) (.bin (.eq) (.var 12) (.kint .i64 (1))) (.bin (.eq) (.var 16) (.kint .i64 (-1))), true)] <|
  .call 26 12 (.cons (.un (.agg) (.cons (.un (.cell 0) (.var 1)) (.cons (.un (.cell 1) (.var 1)) (.cons (.un (.cell 2) (.var 1)) (.cons (.un (.cell 3) (.var 1)) (.cons (.un (.cell 4) (.var 1)) (.cons (.un (.cell 5) (.var 1)) (.cons (.un (.cell 6) (.var 1)) (.cons (.un (.cell 7) (.var 1)) (.cons (.un (.cell 8) (.var 1)) (.nil))))))))))) (.cons (.kint .i64 (1)) (.cons (.kint .i64 (0)) (.cons (.kint .i64 (1)) (.nil))))) [(.bin (.and) (.bin (.and) (.bin (.eq) (.var 12) (.kint .i64 (1))) (.bin (.eq) (.var 16) (.kint .i64 (-1)))) (.bin (.eq) (.var 21) (.kint .i64 (0))), true)] <|
  .call 31 10 (.cons (.un (.agg) (.cons (.un (.cell 0) (.var 1)) (.cons (.un (.cell 1) (.var 1)) (.cons (.un (.cell 2) (.var 1)) (.cons (.un (.cell 3) (.var 1)) (.cons (.un (.cell 4) (.var 1)) (.cons (.un (.cell 5) (.var 1)) (.cons (.un (.cell 6) (.var 1)) (.cons (.un (.cell 7) (.var 1)) (.cons (.un (.cell 8) (.var 1)) (.nil))))))))))) (.cons (.kint .i64 (3)) (.nil))) [(.bin (.and) (.bin (.and) (.bin (.and) (.bin (.eq) (.var 12) (.kint .i64 (1))) (.bin (.eq) (.var 16) (.kint .i64 (-1)))) (.bin (.eq) (.var 21) (.kint .i64 (0)))) (.bin (.eq) (.var 26) (.kint .i64 (-1))), true)] <|
  .ret (.bin (.and) (.bin (.and) (.bin (.and) (.bin (.and) (.bin (.and) (.bin (.and) (.bin (.eq) (.var 12) (.kint .i64 (1))) (.bin (.eq) (.var 16) (.kint .i64 (-1)))) (.bin (.eq) (.var 21) (.kint .i64 (0)))) (.bin (.eq) (.var 26) (.kint .i64 (-1)))) (.bin (.and) (.bin (.eq) (.un (.cell 0) (.un (.agg) (.cons (.un (.cell 0) (.var 31)) (.cons (.un (.cell 1) (.var 31)) (.nil))))) (.un (.cell 0) (.un (.agg) (.cons (.kint .i64 (10)) (.cons (.kint .i64 (1)) (.nil)))))) (.bin (.and) (.bin (.eq) (.un (.cell 1) (.un (.agg) (.cons (.un (.cell 0) (.var 31)) (.cons (.un (.cell 1) (.var 31)) (.nil))))) (.un (.cell 1) (.un (.agg) (.cons (.kint .i64 (10)) (.cons (.kint .i64 (1)) (.nil)))))) (.kbool true)))) (.bin (.eq) (.un (.cell 0) (.var 5)) (.kint .i64 (2)))) (.bin (.eq) (.un (.cell 1) (.var 5)) (.kint .i64 (1))))
def vc3 : VC :=
  .call 8 8 (.cons (.un (.agg) (.cons (.un (.cell 0) (.var 0)) (.cons (.un (.cell 1) (.var 0)) (.cons (.un (.cell 2) (.var 0)) (.cons (.un (.cell 3) (.var 0)) (.cons (.un (.cell 4) (.var 0)) (.cons (.un (.cell 5) (.var 0)) (.cons (.un (.cell 6) (.var 0)) (.cons (.un (.cell 7) (.var 0)) (.cons (.un (.cell 8) (.var 0)) (.nil))))))))))) (.cons (.un (.cell 0) (.var 1)) (.nil))) [] <|
  .call 17 9 (.cons (.un (.agg) (.cons (.un (.cell 0) (.var 0)) (.cons (.un (.cell 1) (.var 0)) (.cons (.un (.cell 2) (.var 0)) (.cons (.un (.cell 3) (.var 0)) (.cons (.un (.cell 4) (.var 0)) (.cons (.un (.cell 5) (.var 0)) (.cons (.un (.cell 6) (.var 0)) (.cons (.un (.cell 7) (.var 0)) (.cons (.un (.cell 8) (.var 0)) (.nil))))))))))) (.cons (.un (.cell 0) (.var 1)) (.nil))) [] <|
  .call 26 10 (.cons (.un (.agg) (.cons (.un (.cell 0) (.var 0)) (.cons (.un (.cell 1) (.var 0)) (.cons (.un (.cell 2) (.var 0)) (.cons (.un (.cell 3) (.var 0)) (.cons (.un (.cell 4) (.var 0)) (.cons (.un (.cell 5) (.var 0)) (.cons (.un (.cell 6) (.var 0)) (.cons (.un (.cell 7) (.var 0)) (.cons (.un (.cell 8) (.var 0)) (.nil))))))))))) (.cons (.un (.cell 0) (.var 1)) (.nil))) [] <|
  .call 30 11 (.cons (.un (.agg) (.cons (.un (.cell 0) (.var 0)) (.cons (.un (.cell 1) (.var 0)) (.cons (.un (.cell 2) (.var 0)) (.cons (.un (.cell 3) (.var 0)) (.cons (.un (.cell 4) (.var 0)) (.cons (.un (.cell 5) (.var 0)) (.cons (.un (.cell 6) (.var 0)) (.cons (.un (.cell 7) (.var 0)) (.cons (.un (.cell 8) (.var 0)) (.nil))))))))))) (.cons (.un (.cell 0) (.var 1)) (.nil))) [] <|
  .call 40 12 (.cons (.un (.agg) (.cons (.un (.cell 0) (.var 0)) (.cons (.un (.cell 1) (.var 0)) (.cons (.un (.cell 2) (.var 0)) (.cons (.un (.cell 3) (.var 0)) (.cons (.un (.cell 4) (.var 0)) (.cons (.un (.cell 5) (.var 0)) (.cons (.un (.cell 6) (.var 0)) (.cons (.un (.cell 7) (.var 0)) (.cons (.un (.cell 8) (.var 0)) (.nil))))))))))) (.cons (.un (.cell 0) (.var 1)) (.cons (.un (.cell 1) (.var 1)) (.cons (.un (.cell 2) (.var 1)) (.nil))))) [(.bin (.and) (.bin (.eq) (.un (.cell 0) (.un (.agg) (.cons (.un (.cell 0) (.var 26)) (.cons (.un (.cell 1) (.var 26)) (.nil))))) (.un (.cell 0) (.un (.agg) (.cons (.un (.cell 0) (.var 30)) (.cons (.un (.cell 1) (.var 30)) (.nil)))))) (.bin (.and) (.bin (.eq) (.un (.cell 1) (.un (.agg) (.cons (.un (.cell 0) (.var 26)) (.cons (.un (.cell 1) (.var 26)) (.nil))))) (.un (.cell 1) (.un (.agg) (.cons (.un (.cell 0) (.var 30)) (.cons (.un (.cell 1) (.var 30)) (.nil)))))) (.kbool true)), true)] <|
  .call 48 13 (.cons (.un (.agg) (.cons (.un (.cell 0) (.var 0)) (.cons (.un (.cell 1) (.var 0)) (.cons (.un (.cell 2) (.var 0)) (.cons (.un (.cell 3) (.var 0)) (.cons (.un (.cell 4) (.var 0)) (.cons (.un (.cell 5) (.var 0)) (.cons (.un (.cell 6) (.var 0)) (.cons (.un (.cell 7) (.var 0)) (.cons (.un (.cell 8) (.var 0)) (.nil))))))))))) (.cons (.un (.cell 0) (.var 1)) (.cons (.un (.cell 1) (.var 1)) (.cons (.un (.cell 2) (.var 1)) (.nil))))) [(.bin (.and) (.bin (.eq) (.un (.cell 0) (.un (.agg) (.cons (.un (.cell 0) (.var 26)) (.cons (.un (.cell 1) (.var 26)) (.nil))))) (.un (.cell 0) (.un (.agg) (.cons (.un (.cell 0) (.var 30)) (.cons (.un (.cell 1) (.var 30)) (.nil)))))) (.bin (.and) (.bin (.eq) (.un (.cell 1) (.un (.agg) (.cons (.un (.cell 0) (.var 26)) (.cons (.un (.cell 1) (.var 26)) (.nil))))) (.un (.cell 1) (.un (.agg) (.cons (.un (.cell 0) (.var 30)) (.cons (.un (.cell 1) (.var 30)) (.nil)))))) (.kbool true)), true)] <|
  .call 62 14 (.nil) [(.bin (.and) (.bin (.and) (.bin (.and) (.bin (.and) (.bin (.eq) (.un (.cell 0) (.un (.agg) (.cons (.un (.cell 0) (.var 26)) (.cons (.un (.cell 1) (.var 26)) (.nil))))) (.un (.cell 0) (.un (.agg) (.cons (.un (.cell 0) (.var 30)) (.cons (.un (.cell 1) (.var 30)) (.nil)))))) (.bin (.and) (.bin (.eq) (.un (.cell 1) (.un (.agg) (.cons (.un (.cell 0) (.var 26)) (.cons (.un (.cell 1) (.var 26)) (.nil))))) (.un (.cell 1) (.un (.agg) (.cons (.un (.cell 0) (.var 30)) (.cons (.un (.cell 1) (.var 30)) (.nil)))))) (.kbool true))) (.bin (.eq) (.var 40) (.var 48))) (.bin (.eq) (.un (.cell 0) (.var 8)) (.un (.cell 0) (.var 17)))) (.bin (.eq) (.un (.cell 1) (.var 8)) (.un (.cell 1) (.var 17))), true)] <|
  .ret (.bin (.and) (.bin (.and) (.bin (.and) (.bin (.and) (.bin (.and) (.bin (.eq) (.un (.cell 0) (.un (.agg) (.cons (.un (.cell 0) (.var 26)) (.cons (.un (.cell 1) (.var 26)) (.nil))))) (.un (.cell 0) (.un (.agg) (.cons (.un (.cell 0) (.var 30)) (.cons (.un (.cell 1) (.var 30)) (.nil)))))) (.bin (.and) (.bin (.eq) (.un (.cell 1) (.un (.agg) (.cons (.un (.cell 0) (.var 26)) (.cons (.un (.cell 1) (.var 26)) (.nil))))) (.un (.cell 1) (.un (.agg) (.cons (.un (.cell 0) (.var 30)) (.cons (.un (.cell 1) (.var 30)) (.nil)))))) (.kbool true))) (.bin (.eq) (.var 40) (.var 48))) (.bin (.eq) (.un (.cell 0) (.var 8)) (.un (.cell 0) (.var 17)))) (.bin (.eq) (.un (.cell 1) (.var 8)) (.un (.cell 1) (.var 17)))) (.var 62))
def vc5 : VC :=
  .call 8 16 (.cons (.un (.agg) (.cons (.un (.cell 0) (.var 0)) (.cons (.un (.cell 1) (.var 0)) (.cons (.un (.cell 2) (.var 0)) (.cons (.un (.cell 3) (.var 0)) (.cons (.un (.cell 4) (.var 0)) (.cons (.un (.cell 5) (.var 0)) (.cons (.un (.cell 6) (.var 0)) (.cons (.un (.cell 7) (.var 0)) (.cons (.un (.cell 8) (.var 0)) (.nil))))))))))) (.cons (.un (.cell 0) (.var 1)) (.nil))) [] <|
  .call 12 17 (.cons (.un (.agg) (.cons (.un (.cell 0) (.var 0)) (.cons (.un (.cell 1) (.var 0)) (.cons (.un (.cell 2) (.var 0)) (.cons (.un (.cell 3) (.var 0)) (.cons (.un (.cell 4) (.var 0)) (.cons (.un (.cell 5) (.var 0)) (.cons (.un (.cell 6) (.var 0)) (.cons (.un (.cell 7) (.var 0)) (.cons (.un (.cell 8) (.var 0)) (.nil))))))))))) (.cons (.un (.cell 0) (.var 1)) (.nil))) [] <|
  .call 18 18 (.cons (.un (.agg) (.cons (.un (.cell 0) (.var 0)) (.cons (.un (.cell 1) (.var 0)) (.cons (.un (.cell 2) (.var 0)) (.cons (.un (.cell 3) (.var 0)) (.cons (.un (.cell 4) (.var 0)) (.cons (.un (.cell 5) (.var 0)) (.cons (.un (.cell 6) (.var 0)) (.cons (.un (.cell 7) (.var 0)) (.cons (.un (.cell 8) (.var 0)) (.nil))))))))))) (.cons (.un (.cell 0) (.var 1)) (.nil))) [(.bin (.eq) (.var 8) (.var 12), true)] <|
  .call 22 19 (.cons (.un (.agg) (.cons (.un (.cell 0) (.var 0)) (.cons (.un (.cell 1) (.var 0)) (.cons (.un (.cell 2) (.var 0)) (.cons (.un (.cell 3) (.var 0)) (.cons (.un (.cell 4) (.var 0)) (.cons (.un (.cell 5) (.var 0)) (.cons (.un (.cell 6) (.var 0)) (.cons (.un (.cell 7) (.var 0)) (.cons (.un (.cell 8) (.var 0)) (.nil))))))))))) (.cons (.un (.cell 0) (.var 1)) (.nil))) [(.bin (.eq) (.var 8) (.var 12), true)] <|
  .call 29 20 (.cons (.un (.agg) (.cons (.un (.cell 0) (.var 0)) (.cons (.un (.cell 1) (.var 0)) (.cons (.un (.cell 2) (.var 0)) (.cons (.un (.cell 3) (.var 0)) (.cons (.un (.cell 4) (.var 0)) (.cons (.un (.cell 5) (.var 0)) (.cons (.un (.cell 6) (.var 0)) (.cons (.un (.cell 7) (.var 0)) (.cons (.un (.cell 8) (.var 0)) (.nil))))))))))) (.cons (.un (.cell 0) (.var 1)) (.nil))) [(.bin (.and) (.bin (.eq) (.var 8) (.var 12)) (.bin (.eq) (.var 18) (.var 22)), true)] <|
  .call 33 21 (.cons (.un (.agg) (.cons (.un (.cell 0) (.var 0)) (.cons (.un (.cell 1) (.var 0)) (.cons (.un (.cell 2) (.var 0)) (.cons (.un (.cell 3) (.var 0)) (.cons (.un (.cell 4) (.var 0)) (.cons (.un (.cell 5) (.var 0)) (.cons (.un (.cell 6) (.var 0)) (.cons (.un (.cell 7) (.var 0)) (.cons (.un (.cell 8) (.var 0)) (.nil))))))))))) (.cons (.un (.cell 0) (.var 1)) (.nil))) [(.bin (.and) (.bin (.eq) (.var 8) (.var 12)) (.bin (.eq) (.var 18) (.var 22)), true)] <|
  .call 40 22 (.cons (.un (.agg) (.cons (.un (.cell 0) (.var 0)) (.cons (.un (.cell 1) (.var 0)) (.cons (.un (.cell 2) (.var 0)) (.cons (.un (.cell 3) (.var 0)) (.cons (.un (.cell 4) (.var 0)) (.cons (.un (.cell 5) (.var 0)) (.cons (.un (.cell 6) (.var 0)) (.cons (.un (.cell 7) (.var 0)) (.cons (.un (.cell 8) (.var 0)) (.nil))))))))))) (.cons (.un (.cell 0) (.var 1)) (.nil))) [] <|
  .call 44 23 (.cons (.un (.agg) (.cons (.un (.cell 0) (.var 0)) (.cons (.un (.cell 1) (.var 0)) (.cons (.un (.cell 2) (.var 0)) (.cons (.un (.cell 3) (.var 0)) (.cons (.un (.cell 4) (.var 0)) (.cons (.un (.cell 5) (.var 0)) (.cons (.un (.cell 6) (.var 0)) (.cons (.un (.cell 7) (.var 0)) (.cons (.un (.cell 8) (.var 0)) (.nil))))))))))) (.cons (.un (.cell 0) (.var 1)) (.nil))) [] <|
  .call 50 24 (.cons (.un (.agg) (.cons (.un (.cell 0) (.var 0)) (.cons (.un (.cell 1) (.var 0)) (.cons (.un (.cell 2) (.var 0)) (.cons (.un (.cell 3) (.var 0)) (.cons (.un (.cell 4) (.var 0)) (.cons (.un (.cell 5) (.var 0)) (.cons (.un (.cell 6) (.var 0)) (.cons (.un (.cell 7) (.var 0)) (.cons (.un (.cell 8) (.var 0)) (.nil))))))))))) (.cons (.un (.cell 0) (.var 1)) (.nil))) [(.bin (.eq) (.var 40) (.var 44), true)] <|
  .call 54 25 (.cons (.un (.agg) (.cons (.un (.cell 0) (.var 0)) (.cons (.un (.cell 1) (.var 0)) (.cons (.un (.cell 2) (.var 0)) (.cons (.un (.cell 3) (.var 0)) (.cons (.un (.cell 4) (.var 0)) (.cons (.un (.cell 5) (.var 0)) (.cons (.un (.cell 6) (.var 0)) (.cons (.un (.cell 7) (.var 0)) (.cons (.un (.cell 8) (.var 0)) (.nil))))))))))) (.cons (.un (.cell 0) (.var 1)) (.nil))) [(.bin (.eq) (.var 40) (.var 44), true)] <|
  .call 61 26 (.cons (.un (.agg) (.cons (.un (.cell 0) (.var 0)) (.cons (.un (.cell 1) (.var 0)) (.cons (.un (.cell 2) (.var 0)) (.cons (.un (.cell 3) (.var 0)) (.cons (.un (.cell 4) (.var 0)) (.cons (.un (.cell 5) (.var 0)) (.cons (.un (.cell 6) (.var 0)) (.cons (.un (.cell 7) (.var 0)) (.cons (.un (.cell 8) (.var 0)) (.nil))))))))))) (.cons (.un (.cell 0) (.var 1)) (.nil))) [(.bin (.and) (.bin (.eq) (.var 40) (.var 44)) (.bin (.eq) (.var 50) (.var 54)), true)] <|
  .call 65 27 (.cons (.un (.agg) (.cons (.un (.cell 0) (.var 0)) (.cons (.un (.cell 1) (.var 0)) (.cons (.un (.cell 2) (.var 0)) (.cons (.un (.cell 3) (.var 0)) (.cons (.un (.cell 4) (.var 0)) (.cons (.un (.cell 5) (.var 0)) (.cons (.un (.cell 6) (.var 0)) (.cons (.un (.cell 7) (.var 0)) (.cons (.un (.cell 8) (.var 0)) (.nil))))))))))) (.cons (.un (.cell 0) (.var 1)) (.nil))) [(.bin (.and) (.bin (.eq) (.var 40) (.var 44)) (.bin (.eq) (.var 50) (.var 54)), true)] <|
  .call 76 28 (.cons (.un (.agg) (.cons (.un (.cell 3) (.var 1)) (.cons (.un (.cell 4) (.var 1)) (.cons (.un (.cell 5) (.var 1)) (.cons (.un (.cell 6) (.var 1)) (.cons (.un (.cell 7) (.var 1)) (.cons (.un (.cell 8) (.var 1)) (.cons (.un (.cell 9) (.var 1)) (.cons (.un (.cell 10) (.var 1)) (.cons (.un (.cell 11) (.var 1)) (.cons (.un (.cell 12) (.var 1)) (.cons (.un (.cell 13) (.var 1)) (.nil))))))))))))) (.nil)) [(.bin (.and) (.bin (.and) (.bin (.and) (.bin (.eq) (.var 8) (.var 12)) (.bin (.eq) (.var 18) (.var 22))) (.bin (.eq) (.var 29) (.var 33))) (.bin (.and) (.bin (.and) (.bin (.eq) (.var 40) (.var 44)) (.bin (.eq) (.var 50) (.var 54))) (.bin (.eq) (.var 61) (.var 65))), true)] <|
  .call 79 29 (.cons (.un (.agg) (.cons (.un (.cell 3) (.var 1)) (.cons (.un (.cell 4) (.var 1)) (.cons (.un (.cell 5) (.var 1)) (.cons (.un (.cell 6) (.var 1)) (.cons (.un (.cell 7) (.var 1)) (.cons (.un (.cell 8) (.var 1)) (.cons (.un (.cell 9) (.var 1)) (.cons (.un (.cell 10) (.var 1)) (.cons (.un (.cell 11) (.var 1)) (.cons (.un (.cell 12) (.var 1)) (.cons (.un (.cell 13) (.var 1)) (.nil))))))))))))) (.nil)) [(.bin (.and) (.bin (.and) (.bin (.and) (.bin (.eq) (.var 8) (.var 12)) (.bin (.eq) (.var 18) (.var 22))) (.bin (.eq) (.var 29) (.var 33))) (.bin (.and) (.bin (.and) (.bin (.eq) (.var 40) (.var 44)) (.bin (.eq) (.var 50) (.var 54))) (.bin (.eq) (.var 61) (.var 65))), true)] <|
  .call 83 14 (.nil) [(.bin (.and) (.bin (.and) (.bin (.and) (.bin (.and) (.bin (.eq) (.var 8) (.var 12)) (.bin (.eq) (.var 18) (.var 22))) (.bin (.eq) (.var 29) (.var 33))) (.bin (.and) (.bin (.and) (.bin (.eq) (.var 40) (.var 44)) (.bin (.eq) (.var 50) (.var 54))) (.bin (.eq) (.var 61) (.var 65)))) (.bin (.beq) (.var 76) (.var 79)), true)] <|
  .ret (.bin (.and) (.bin (.and) (.bin (.and) (.bin (.and) (.bin (.and) (.bin (.eq) (.var 8) (.var 12)) (.bin (.eq) (.var 18) (.var 22))) (.bin (.eq) (.var 29) (.var 33))) (.bin (.and) (.bin (.and) (.bin (.eq) (.var 40) (.var 44)) (.bin (.eq) (.var 50) (.var 54))) (.bin (.eq) (.var 61) (.var 65)))) (.bin (.beq) (.var 76) (.var 79))) (.var 83))
def vc39 : VC :=
  .room [] (.bin (.cat) (.nil) (.un (.cell 4) (.var 0))) 24 <|
  .ret (.un (.agg) (.cons (.un (.cell 0) (.var 0)) (.cons (.un (.cell 1) (.var 0)) (.cons (.un (.cell 2) (.var 0)) (.cons (.un (.cell 3) (.var 0)) (.cons (.bin (.cat) (.nil) (.un (.cell 4) (.var 0))) (.cons (.un (.cell 5) (.var 0)) (.cons (.un (.cell 6) (.var 0)) (.nil)))))))))
def vc15 : VC :=
  .loop 11 [.kint .i64 (0), .un (.cell 0) (.var 0), .un (.cell 1) (.var 0), .nil, .nil, .nil, .nil, .nil, .nil, .nil] [.int .i64, .int .i64, .int .i64, .list (.agg (.cons (.int .i64) (.cons (.int .i64) (.cons (.int .i64) (.cons (.int .i64) (.cons (.list (.agg (.cons (.int .i64) (.cons (.int .i64) (.cons (.int .i64) (.nil)))))) (.cons (.int .i64) (.cons (.bool) (.nil))))))))), .list (.agg (.cons (.int .i64) (.cons (.int .i64) (.cons (.int .i64) (.cons (.int .i64) (.cons (.list (.agg (.cons (.int .i64) (.cons (.int .i64) (.cons (.int .i64) (.nil)))))) (.cons (.int .i64) (.cons (.bool) (.nil))))))))), .list (.agg (.cons (.int .i64) (.cons (.int .i64) (.cons (.int .i64) (.cons (.bool) (.cons (.bool) (.cons (.int .i64) (.cons (.int .i64) (.cons (.int .i64) (.nil)))))))))), .list (.agg (.cons (.int .i64) (.cons (.int .i64) (.cons (.int .i64) (.cons (.int .i64) (.cons (.int .i64) (.cons (.int .i64) (.cons (.int .i64) (.cons (.int .i64) (.cons (.int .i64) (.cons (.bool) (.cons (.int .i64) (.nil))))))))))))), .list (.agg (.cons (.int .i64) (.cons (.int .i64) (.cons (.int .i64) (.cons (.int .i64) (.nil)))))), .list (.agg (.cons (.int .i64) (.cons (.int .i64) (.cons (.int .i64) (.cons (.int .i64) (.nil)))))), .list (.agg (.cons (.int .i64) (.cons (.int .i64) (.cons (.int .i64) (.cons (.int .i64) (.cons (.list (.agg (.cons (.int .i64) (.cons (.int .i64) (.cons (.int .i64) (.cons (.int .i64) (.cons (.int .i64) (.cons (.int .i64) (.cons (.int .i64) (.cons (.int .i64) (.cons (.int .i64) (.cons (.bool) (.cons (.int .i64) (.nil)))))))))))))) (.nil)))))))] (
    .branch (.bin (.lt) (.var 11) (.un (.len) (.un (.cell 2) (.var 0)))) (
      .obl [] (.bin (.and) (.bin (.le) (.kint .i64 (0)) (.var 11)) (.bin (.lt) (.var 11) (.un (.len) (.un (.cell 2) (.var 0))))) <|
      .call 33 39 (.cons (.bin (.idx) (.un (.cell 2) (.var 0)) (.var 11)) (.nil)) [] <|
      .room [] (.bin (.cat) (.var 14) (.cons (.un (.agg) (.cons (.un (.cell 0) (.var 33)) (.cons (.un (.cell 1) (.var 33)) (.cons (.un (.cell 2) (.var 33)) (.cons (.un (.cell 3) (.var 33)) (.cons (.un (.cell 4) (.var 33)) (.cons (.un (.cell 5) (.var 33)) (.cons (.un (.cell 6) (.var 33)) (.nil))))))))) (.nil))) 72 <|
      .again 0 [.bin (.add .i64) (.var 11) (.kint .i64 (1)), .var 12, .var 13, .bin (.cat) (.var 14) (.cons (.un (.agg) (.cons (.un (.cell 0) (.var 33)) (.cons (.un (.cell 1) (.var 33)) (.cons (.un (.cell 2) (.var 33)) (.cons (.un (.cell 3) (.var 33)) (.cons (.un (.cell 4) (.var 33)) (.cons (.un (.cell 5) (.var 33)) (.cons (.un (.cell 6) (.var 33)) (.nil))))))))) (.nil)), .var 15, .var 16, .var 17, .var 18, .var 19, .var 20])
      (
      .loop 27 [.kint .i64 (0), .var 12, .var 13, .var 14, .var 15, .var 16, .var 17, .var 18, .var 19, .var 20] [.int .i64, .int .i64, .int .i64, .list (.agg (.cons (.int .i64) (.cons (.int .i64) (.cons (.int .i64) (.cons (.int .i64) (.cons (.list (.agg (.cons (.int .i64) (.cons (.int .i64) (.cons (.int .i64) (.nil)))))) (.cons (.int .i64) (.cons (.bool) (.nil))))))))), .list (.agg (.cons (.int .i64) (.cons (.int .i64) (.cons (.int .i64) (.cons (.int .i64) (.cons (.list (.agg (.cons (.int .i64) (.cons (.int .i64) (.cons (.int .i64) (.nil)))))) (.cons (.int .i64) (.cons (.bool) (.nil))))))))), .list (.agg (.cons (.int .i64) (.cons (.int .i64) (.cons (.int .i64) (.cons (.bool) (.cons (.bool) (.cons (.int .i64) (.cons (.int .i64) (.cons (.int .i64) (.nil)))))))))), .list (.agg (.cons (.int .i64) (.cons (.int .i64) (.cons (.int .i64) (.cons (.int .i64) (.cons (.int .i64) (.cons (.int .i64) (.cons (.int .i64) (.cons (.int .i64) (.cons (.int .i64) (.cons (.bool) (.cons (.int .i64) (.nil))))))))))))), .list (.agg (.cons (.int .i64) (.cons (.int .i64) (.cons (.int .i64) (.cons (.int .i64) (.nil)))))), .list (.agg (.cons (.int .i64) (.cons (.int .i64) (.cons (.int .i64) (.cons (.int .i64) (.nil)))))), .list (.agg (.cons (.int .i64) (.cons (.int .i64) (.cons (.int .i64) (.cons (.int .i64) (.cons (.list (.agg (.cons (.int .i64) (.cons (.int .i64) (.cons (.int .i64) (.cons (.int .i64) (.cons (.int .i64) (.cons (.int .i64) (.cons (.int .i64) (.cons (.int .i64) (.cons (.int .i64) (.cons (.bool) (.cons (.int .i64) (.nil)))))))))))))) (.nil)))))))] (
        .branch (.bin (.lt) (.var 27) (.un (.len) (.un (.cell 3) (.var 0)))) (
          .obl [] (.bin (.and) (.bin (.le) (.kint .i64 (0)) (.var 27)) (.bin (.lt) (.var 27) (.un (.len) (.un (.cell 3) (.var 0))))) <|
          .call 49 39 (.cons (.bin (.idx) (.un (.cell 3) (.var 0)) (.var 27)) (.nil)) [] <|
          .room [] (.bin (.cat) (.var 31) (.cons (.un (.agg) (.cons (.un (.cell 0) (.var 49)) (.cons (.un (.cell 1) (.var 49)) (.cons (.un (.cell 2) (.var 49)) (.cons (.un (.cell 3) (.var 49)) (.cons (.un (.cell 4) (.var 49)) (.cons (.un (.cell 5) (.var 49)) (.cons (.un (.cell 6) (.var 49)) (.nil))))))))) (.nil))) 72 <|
          .again 0 [.bin (.add .i64) (.var 27) (.kint .i64 (1)), .var 28, .var 29, .var 30, .bin (.cat) (.var 31) (.cons (.un (.agg) (.cons (.un (.cell 0) (.var 49)) (.cons (.un (.cell 1) (.var 49)) (.cons (.un (.cell 2) (.var 49)) (.cons (.un (.cell 3) (.var 49)) (.cons (.un (.cell 4) (.var 49)) (.cons (.un (.cell 5) (.var 49)) (.cons (.un (.cell 6) (.var 49)) (.nil))))))))) (.nil)), .var 32, .var 33, .var 34, .var 35, .var 36])
          (
          .room [] (.bin (.cat) (.var 32) (.un (.cell 4) (.var 0))) 56 <|
          .room [] (.bin (.cat) (.var 33) (.un (.cell 5) (.var 0))) 88 <|
          .room [] (.bin (.cat) (.var 34) (.un (.cell 6) (.var 0))) 32 <|
          .room [] (.bin (.cat) (.var 35) (.un (.cell 7) (.var 0))) 32 <|
          .loop 71 [.kint .i64 (0), .var 28, .var 29, .var 30, .var 31, .bin (.cat) (.var 32) (.un (.cell 4) (.var 0)), .bin (.cat) (.var 33) (.un (.cell 5) (.var 0)), .bin (.cat) (.var 34) (.un (.cell 6) (.var 0)), .bin (.cat) (.var 35) (.un (.cell 7) (.var 0)), .var 36] [.int .i64, .int .i64, .int .i64, .list (.agg (.cons (.int .i64) (.cons (.int .i64) (.cons (.int .i64) (.cons (.int .i64) (.cons (.list (.agg (.cons (.int .i64) (.cons (.int .i64) (.cons (.int .i64) (.nil)))))) (.cons (.int .i64) (.cons (.bool) (.nil))))))))), .list (.agg (.cons (.int .i64) (.cons (.int .i64) (.cons (.int .i64) (.cons (.int .i64) (.cons (.list (.agg (.cons (.int .i64) (.cons (.int .i64) (.cons (.int .i64) (.nil)))))) (.cons (.int .i64) (.cons (.bool) (.nil))))))))), .list (.agg (.cons (.int .i64) (.cons (.int .i64) (.cons (.int .i64) (.cons (.bool) (.cons (.bool) (.cons (.int .i64) (.cons (.int .i64) (.cons (.int .i64) (.nil)))))))))), .list (.agg (.cons (.int .i64) (.cons (.int .i64) (.cons (.int .i64) (.cons (.int .i64) (.cons (.int .i64) (.cons (.int .i64) (.cons (.int .i64) (.cons (.int .i64) (.cons (.int .i64) (.cons (.bool) (.cons (.int .i64) (.nil))))))))))))), .list (.agg (.cons (.int .i64) (.cons (.int .i64) (.cons (.int .i64) (.cons (.int .i64) (.nil)))))), .list (.agg (.cons (.int .i64) (.cons (.int .i64) (.cons (.int .i64) (.cons (.int .i64) (.nil)))))), .list (.agg (.cons (.int .i64) (.cons (.int .i64) (.cons (.int .i64) (.cons (.int .i64) (.cons (.list (.agg (.cons (.int .i64) (.cons (.int .i64) (.cons (.int .i64) (.cons (.int .i64) (.cons (.int .i64) (.cons (.int .i64) (.cons (.int .i64) (.cons (.int .i64) (.cons (.int .i64) (.cons (.bool) (.cons (.int .i64) (.nil)))))))))))))) (.nil)))))))] (
            .branch (.bin (.lt) (.var 71) (.un (.len) (.un (.cell 8) (.var 0)))) (
              .obl [] (.bin (.and) (.bin (.le) (.kint .i64 (0)) (.var 71)) (.bin (.lt) (.var 71) (.un (.len) (.un (.cell 8) (.var 0))))) <|
              .room [] (.bin (.cat) (.nil) (.un (.cell 4) (.bin (.idx) (.un (.cell 8) (.var 0)) (.var 71)))) 88 <|
              .room [] (.bin (.cat) (.var 80) (.cons (.un (.agg) (.cons (.un (.cell 0) (.bin (.idx) (.un (.cell 8) (.var 0)) (.var 71))) (.cons (.un (.cell 1) (.bin (.idx) (.un (.cell 8) (.var 0)) (.var 71))) (.cons (.un (.cell 2) (.bin (.idx) (.un (.cell 8) (.var 0)) (.var 71))) (.cons (.un (.cell 3) (.bin (.idx) (.un (.cell 8) (.var 0)) (.var 71))) (.cons (.bin (.cat) (.nil) (.un (.cell 4) (.bin (.idx) (.un (.cell 8) (.var 0)) (.var 71)))) (.nil))))))) (.nil))) 56 <|
              .again 0 [.bin (.add .i64) (.var 71) (.kint .i64 (1)), .var 72, .var 73, .var 74, .var 75, .var 76, .var 77, .var 78, .var 79, .bin (.cat) (.var 80) (.cons (.un (.agg) (.cons (.un (.cell 0) (.bin (.idx) (.un (.cell 8) (.var 0)) (.var 71))) (.cons (.un (.cell 1) (.bin (.idx) (.un (.cell 8) (.var 0)) (.var 71))) (.cons (.un (.cell 2) (.bin (.idx) (.un (.cell 8) (.var 0)) (.var 71))) (.cons (.un (.cell 3) (.bin (.idx) (.un (.cell 8) (.var 0)) (.var 71))) (.cons (.bin (.cat) (.nil) (.un (.cell 4) (.bin (.idx) (.un (.cell 8) (.var 0)) (.var 71)))) (.nil))))))) (.nil))])
              (
              .ret (.un (.agg) (.cons (.var 72) (.cons (.var 73) (.cons (.var 74) (.cons (.var 75) (.cons (.var 76) (.cons (.var 77) (.cons (.var 78) (.cons (.var 79) (.cons (.var 80) (.nil)))))))))))))))))
def vc4 : VC :=
  .call 8 10 (.cons (.un (.agg) (.cons (.un (.cell 0) (.var 0)) (.cons (.un (.cell 1) (.var 0)) (.cons (.un (.cell 2) (.var 0)) (.cons (.un (.cell 3) (.var 0)) (.cons (.un (.cell 4) (.var 0)) (.cons (.un (.cell 5) (.var 0)) (.cons (.un (.cell 6) (.var 0)) (.cons (.un (.cell 7) (.var 0)) (.cons (.un (.cell 8) (.var 0)) (.nil))))))))))) (.cons (.var 2) (.nil))) [] <|
  .call 12 15 (.cons (.un (.agg) (.cons (.un (.cell 0) (.var 0)) (.cons (.un (.cell 1) (.var 0)) (.cons (.un (.cell 2) (.var 0)) (.cons (.un (.cell 3) (.var 0)) (.cons (.un (.cell 4) (.var 0)) (.cons (.un (.cell 5) (.var 0)) (.cons (.un (.cell 6) (.var 0)) (.cons (.un (.cell 7) (.var 0)) (.cons (.un (.cell 8) (.var 0)) (.nil))))))))))) (.nil)) [] <|
  .room [] (.bin (.cat) (.un (.cell 5) (.var 12)) (.cons (.un (.agg) (.cons (.un (.cell 0) (.var 1)) (.cons (.un (.cell 1) (.var 1)) (.cons (.un (.cell 2) (.var 1)) (.cons (.un (.cell 3) (.var 1)) (.cons (.un (.cell 4) (.var 1)) (.cons (.un (.cell 5) (.var 1)) (.cons (.un (.cell 6) (.var 1)) (.cons (.un (.cell 7) (.var 1)) (.cons (.un (.cell 8) (.var 1)) (.cons (.un (.cell 9) (.var 1)) (.cons (.un (.cell 10) (.var 1)) (.nil))))))))))))) (.nil))) 88 <|
  .call 24 10 (.cons (.un (.agg) (.cons (.un (.cell 0) (.var 12)) (.cons (.un (.cell 1) (.var 12)) (.cons (.un (.cell 2) (.var 12)) (.cons (.un (.cell 3) (.var 12)) (.cons (.un (.cell 4) (.var 12)) (.cons (.bin (.cat) (.un (.cell 5) (.var 12)) (.cons (.un (.agg) (.cons (.un (.cell 0) (.var 1)) (.cons (.un (.cell 1) (.var 1)) (.cons (.un (.cell 2) (.var 1)) (.cons (.un (.cell 3) (.var 1)) (.cons (.un (.cell 4) (.var 1)) (.cons (.un (.cell 5) (.var 1)) (.cons (.un (.cell 6) (.var 1)) (.cons (.un (.cell 7) (.var 1)) (.cons (.un (.cell 8) (.var 1)) (.cons (.un (.cell 9) (.var 1)) (.cons (.un (.cell 10) (.var 1)) (.nil))))))))))))) (.nil))) (.cons (.un (.cell 6) (.var 12)) (.cons (.un (.cell 7) (.var 12)) (.cons (.un (.cell 8) (.var 12)) (.nil))))))))))) (.cons (.var 2) (.nil))) [] <|
  .branch (.bin (.or) (.bin (.ge) (.un (.cell 10) (.var 1)) (.kint .i64 (3))) (.bin (.ne) (.un (.cell 5) (.var 1)) (.var 2))) (
    .call 40 14 (.nil) [(.bin (.and) (.bin (.eq) (.un (.cell 0) (.un (.agg) (.cons (.un (.cell 0) (.var 24)) (.cons (.un (.cell 1) (.var 24)) (.nil))))) (.un (.cell 0) (.un (.agg) (.cons (.un (.cell 0) (.var 8)) (.cons (.un (.cell 1) (.var 8)) (.nil)))))) (.bin (.and) (.bin (.eq) (.un (.cell 1) (.un (.agg) (.cons (.un (.cell 0) (.var 24)) (.cons (.un (.cell 1) (.var 24)) (.nil))))) (.un (.cell 1) (.un (.agg) (.cons (.un (.cell 0) (.var 8)) (.cons (.un (.cell 1) (.var 8)) (.nil)))))) (.kbool true)), true)] <|
    .ret (.bin (.and) (.bin (.and) (.bin (.eq) (.un (.cell 0) (.un (.agg) (.cons (.un (.cell 0) (.var 24)) (.cons (.un (.cell 1) (.var 24)) (.nil))))) (.un (.cell 0) (.un (.agg) (.cons (.un (.cell 0) (.var 8)) (.cons (.un (.cell 1) (.var 8)) (.nil)))))) (.bin (.and) (.bin (.eq) (.un (.cell 1) (.un (.agg) (.cons (.un (.cell 0) (.var 24)) (.cons (.un (.cell 1) (.var 24)) (.nil))))) (.un (.cell 1) (.un (.agg) (.cons (.un (.cell 0) (.var 8)) (.cons (.un (.cell 1) (.var 8)) (.nil)))))) (.kbool true))) (.var 40)))
    (
    .branch (.bin (.or) (.bin (.and) (.bin (.eq) (.un (.cell 0) (.un (.agg) (.cons (.un (.cell 0) (.var 8)) (.cons (.un (.cell 1) (.var 8)) (.nil))))) (.un (.cell 0) (.un (.agg) (.cons (.kint .i64 (1152921504606846976)) (.cons (.kint .i64 (1152921504606846976)) (.nil)))))) (.bin (.and) (.bin (.eq) (.un (.cell 1) (.un (.agg) (.cons (.un (.cell 0) (.var 8)) (.cons (.un (.cell 1) (.var 8)) (.nil))))) (.un (.cell 1) (.un (.agg) (.cons (.kint .i64 (1152921504606846976)) (.cons (.kint .i64 (1152921504606846976)) (.nil)))))) (.kbool true))) (.bin (.and) (.bin (.eq) (.un (.cell 0) (.un (.agg) (.cons (.un (.cell 0) (.var 24)) (.cons (.un (.cell 1) (.var 24)) (.nil))))) (.un (.cell 0) (.un (.agg) (.cons (.kint .i64 (1152921504606846976)) (.cons (.kint .i64 (1152921504606846976)) (.nil)))))) (.bin (.and) (.bin (.eq) (.un (.cell 1) (.un (.agg) (.cons (.un (.cell 0) (.var 24)) (.cons (.un (.cell 1) (.var 24)) (.nil))))) (.un (.cell 1) (.un (.agg) (.cons (.kint .i64 (1152921504606846976)) (.cons (.kint .i64 (1152921504606846976)) (.nil)))))) (.kbool true)))) (
      .call 56 14 (.nil) [(.bin (.or) (.un (.not) (.bin (.and) (.bin (.eq) (.un (.cell 0) (.un (.agg) (.cons (.un (.cell 0) (.var 8)) (.cons (.un (.cell 1) (.var 8)) (.nil))))) (.un (.cell 0) (.un (.agg) (.cons (.kint .i64 (1152921504606846976)) (.cons (.kint .i64 (1152921504606846976)) (.nil)))))) (.bin (.and) (.bin (.eq) (.un (.cell 1) (.un (.agg) (.cons (.un (.cell 0) (.var 8)) (.cons (.un (.cell 1) (.var 8)) (.nil))))) (.un (.cell 1) (.un (.agg) (.cons (.kint .i64 (1152921504606846976)) (.cons (.kint .i64 (1152921504606846976)) (.nil)))))) (.kbool true)))) (.bin (.and) (.bin (.eq) (.un (.cell 0) (.un (.agg) (.cons (.un (.cell 0) (.var 24)) (.cons (.un (.cell 1) (.var 24)) (.nil))))) (.un (.cell 0) (.un (.agg) (.cons (.kint .i64 (1152921504606846976)) (.cons (.kint .i64 (1152921504606846976)) (.nil)))))) (.bin (.and) (.bin (.eq) (.un (.cell 1) (.un (.agg) (.cons (.un (.cell 0) (.var 24)) (.cons (.un (.cell 1) (.var 24)) (.nil))))) (.un (.cell 1) (.un (.agg) (.cons (.kint .i64 (1152921504606846976)) (.cons (.kint .i64 (1152921504606846976)) (.nil)))))) (.kbool true))), true)] <|
      .ret (.bin (.and) (.bin (.or) (.un (.not) (.bin (.and) (.bin (.eq) (.un (.cell 0) (.un (.agg) (.cons (.un (.cell 0) (.var 8)) (.cons (.un (.cell 1) (.var 8)) (.nil))))) (.un (.cell 0) (.un (.agg) (.cons (.kint .i64 (1152921504606846976)) (.cons (.kint .i64 (1152921504606846976)) (.nil)))))) (.bin (.and) (.bin (.eq) (.un (.cell 1) (.un (.agg) (.cons (.un (.cell 0) (.var 8)) (.cons (.un (.cell 1) (.var 8)) (.nil))))) (.un (.cell 1) (.un (.agg) (.cons (.kint .i64 (1152921504606846976)) (.cons (.kint .i64 (1152921504606846976)) (.nil)))))) (.kbool true)))) (.bin (.and) (.bin (.eq) (.un (.cell 0) (.un (.agg) (.cons (.un (.cell 0) (.var 24)) (.cons (.un (.cell 1) (.var 24)) (.nil))))) (.un (.cell 0) (.un (.agg) (.cons (.kint .i64 (1152921504606846976)) (.cons (.kint .i64 (1152921504606846976)) (.nil)))))) (.bin (.and) (.bin (.eq) (.un (.cell 1) (.un (.agg) (.cons (.un (.cell 0) (.var 24)) (.cons (.un (.cell 1) (.var 24)) (.nil))))) (.un (.cell 1) (.un (.agg) (.cons (.kint .i64 (1152921504606846976)) (.cons (.kint .i64 (1152921504606846976)) (.nil)))))) (.kbool true)))) (.var 56)))
      (
      .call 68 14 (.nil) [(.bin (.and) (.bin (.eq) (.un (.cell 0) (.var 24)) (.bin (.add .i64) (.un (.cell 0) (.var 8)) (.un (.cell 7) (.var 1)))) (.bin (.eq) (.un (.cell 1) (.var 24)) (.bin (.add .i64) (.un (.cell 1) (.var 8)) (.un (.cell 8) (.var 1)))), true)] <|
      .ret (.bin (.and) (.bin (.and) (.bin (.eq) (.un (.cell 0) (.var 24)) (.bin (.add .i64) (.un (.cell 0) (.var 8)) (.un (.cell 7) (.var 1)))) (.bin (.eq) (.un (.cell 1) (.var 24)) (.bin (.add .i64) (.un (.cell 1) (.var 8)) (.un (.cell 8) (.var 1))))) (.var 68))))
def vc71 : VC :=
  .branch (.bin (.ne) (.un (.len) (.var 0)) (.un (.len) (.var 1))) (
    .ret (.kbool false))
    (
    .loop 11 [.kbool false, .kint .i64 (0)] [.bool, .int .i64] (
      .branch (.bin (.lt) (.var 12) (.un (.len) (.var 0))) (
        .obl [] (.bin (.and) (.bin (.le) (.kint .i64 (0)) (.var 12)) (.bin (.lt) (.var 12) (.un (.len) (.var 0)))) <|
        .obl [] (.bin (.and) (.bin (.le) (.kint .i64 (0)) (.var 12)) (.bin (.lt) (.var 12) (.un (.len) (.var 1)))) <|
        .branch (.un (.not) (.bin (.and) (.bin (.eq) (.un (.cell 0) (.bin (.idx) (.var 0) (.var 12))) (.un (.cell 0) (.bin (.idx) (.var 1) (.var 12)))) (.bin (.and) (.bin (.and) (.bin (.eq) (.un (.cell 1) (.bin (.idx) (.var 0) (.var 12))) (.un (.cell 1) (.bin (.idx) (.var 1) (.var 12)))) (.bin (.and) (.bin (.eq) (.un (.cell 2) (.bin (.idx) (.var 0) (.var 12))) (.un (.cell 2) (.bin (.idx) (.var 1) (.var 12)))) (.kbool true))) (.kbool true)))) (
          .ret (.kbool false))
          (
          .again 0 [.var 11, .bin (.add .i64) (.var 12) (.kint .i64 (1))]))
        (
        .ret (.kbool true))))
def vc61 : VC :=
  .branch (.bin (.ne) (.un (.len) (.var 0)) (.un (.len) (.var 1))) (
    .ret (.kbool false))
    (
    .loop 11 [.kbool false, .kint .i64 (0)] [.bool, .int .i64] (
      .branch (.bin (.lt) (.var 12) (.un (.len) (.var 0))) (
        .obl [] (.bin (.and) (.bin (.le) (.kint .i64 (0)) (.var 12)) (.bin (.lt) (.var 12) (.un (.len) (.var 0)))) <|
        .obl [] (.bin (.and) (.bin (.le) (.kint .i64 (0)) (.var 12)) (.bin (.lt) (.var 12) (.un (.len) (.var 1)))) <|
        .branch (.un (.not) (.bin (.and) (.bin (.eq) (.un (.cell 0) (.bin (.idx) (.var 0) (.var 12))) (.un (.cell 0) (.bin (.idx) (.var 1) (.var 12)))) (.bin (.and) (.bin (.and) (.bin (.eq) (.un (.cell 1) (.bin (.idx) (.var 0) (.var 12))) (.un (.cell 1) (.bin (.idx) (.var 1) (.var 12)))) (.bin (.and) (.bin (.eq) (.un (.cell 2) (.bin (.idx) (.var 0) (.var 12))) (.un (.cell 2) (.bin (.idx) (.var 1) (.var 12)))) (.kbool true))) (.bin (.and) (.bin (.beq) (.un (.cell 3) (.bin (.idx) (.var 0) (.var 12))) (.un (.cell 3) (.bin (.idx) (.var 1) (.var 12)))) (.bin (.and) (.bin (.beq) (.un (.cell 4) (.bin (.idx) (.var 0) (.var 12))) (.un (.cell 4) (.bin (.idx) (.var 1) (.var 12)))) (.bin (.and) (.bin (.eq) (.un (.cell 5) (.bin (.idx) (.var 0) (.var 12))) (.un (.cell 5) (.bin (.idx) (.var 1) (.var 12)))) (.bin (.and) (.bin (.eq) (.un (.cell 6) (.bin (.idx) (.var 0) (.var 12))) (.un (.cell 6) (.bin (.idx) (.var 1) (.var 12)))) (.bin (.and) (.bin (.eq) (.un (.cell 7) (.bin (.idx) (.var 0) (.var 12))) (.un (.cell 7) (.bin (.idx) (.var 1) (.var 12)))) (.kbool true))))))))) (
          .ret (.kbool false))
          (
          .again 0 [.var 11, .bin (.add .i64) (.var 12) (.kint .i64 (1))]))
        (
        .ret (.kbool true))))
def vc62 : VC :=
  .branch (.bin (.ne) (.un (.len) (.var 0)) (.un (.len) (.var 1))) (
    .ret (.kbool false))
    (
    .loop 11 [.kbool false, .kint .i64 (0)] [.bool, .int .i64] (
      .branch (.bin (.lt) (.var 12) (.un (.len) (.var 0))) (
        .obl [] (.bin (.and) (.bin (.le) (.kint .i64 (0)) (.var 12)) (.bin (.lt) (.var 12) (.un (.len) (.var 0)))) <|
        .obl [] (.bin (.and) (.bin (.le) (.kint .i64 (0)) (.var 12)) (.bin (.lt) (.var 12) (.un (.len) (.var 1)))) <|
        .branch (.un (.not) (.bin (.and) (.bin (.eq) (.un (.cell 0) (.bin (.idx) (.var 0) (.var 12))) (.un (.cell 0) (.bin (.idx) (.var 1) (.var 12)))) (.bin (.and) (.bin (.eq) (.un (.cell 1) (.bin (.idx) (.var 0) (.var 12))) (.un (.cell 1) (.bin (.idx) (.var 1) (.var 12)))) (.bin (.and) (.bin (.eq) (.un (.cell 2) (.bin (.idx) (.var 0) (.var 12))) (.un (.cell 2) (.bin (.idx) (.var 1) (.var 12)))) (.bin (.and) (.bin (.eq) (.un (.cell 3) (.bin (.idx) (.var 0) (.var 12))) (.un (.cell 3) (.bin (.idx) (.var 1) (.var 12)))) (.bin (.and) (.bin (.eq) (.un (.cell 4) (.bin (.idx) (.var 0) (.var 12))) (.un (.cell 4) (.bin (.idx) (.var 1) (.var 12)))) (.bin (.and) (.bin (.eq) (.un (.cell 5) (.bin (.idx) (.var 0) (.var 12))) (.un (.cell 5) (.bin (.idx) (.var 1) (.var 12)))) (.bin (.and) (.bin (.eq) (.un (.cell 6) (.bin (.idx) (.var 0) (.var 12))) (.un (.cell 6) (.bin (.idx) (.var 1) (.var 12)))) (.bin (.and) (.bin (.and) (.bin (.eq) (.un (.cell 7) (.bin (.idx) (.var 0) (.var 12))) (.un (.cell 7) (.bin (.idx) (.var 1) (.var 12)))) (.bin (.and) (.bin (.eq) (.un (.cell 8) (.bin (.idx) (.var 0) (.var 12))) (.un (.cell 8) (.bin (.idx) (.var 1) (.var 12)))) (.kbool true))) (.bin (.and) (.bin (.beq) (.un (.cell 9) (.bin (.idx) (.var 0) (.var 12))) (.un (.cell 9) (.bin (.idx) (.var 1) (.var 12)))) (.bin (.and) (.bin (.eq) (.un (.cell 10) (.bin (.idx) (.var 0) (.var 12))) (.un (.cell 10) (.bin (.idx) (.var 1) (.var 12)))) (.kbool true)))))))))))) (
          .ret (.kbool false))
          (
          .again 0 [.var 11, .bin (.add .i64) (.var 12) (.kint .i64 (1))]))
        (
        .ret (.kbool true))))
def vc63 : VC :=
  .branch (.bin (.ne) (.un (.len) (.var 0)) (.un (.len) (.var 1))) (
    .ret (.kbool false))
    (
    .loop 11 [.kbool false, .kint .i64 (0)] [.bool, .int .i64] (
      .branch (.bin (.lt) (.var 12) (.un (.len) (.var 0))) (
        .obl [] (.bin (.and) (.bin (.le) (.kint .i64 (0)) (.var 12)) (.bin (.lt) (.var 12) (.un (.len) (.var 0)))) <|
        .obl [] (.bin (.and) (.bin (.le) (.kint .i64 (0)) (.var 12)) (.bin (.lt) (.var 12) (.un (.len) (.var 1)))) <|
        .branch (.un (.not) (.bin (.and) (.bin (.eq) (.un (.cell 0) (.bin (.idx) (.var 0) (.var 12))) (.un (.cell 0) (.bin (.idx) (.var 1) (.var 12)))) (.bin (.and) (.bin (.eq) (.un (.cell 1) (.bin (.idx) (.var 0) (.var 12))) (.un (.cell 1) (.bin (.idx) (.var 1) (.var 12)))) (.bin (.and) (.bin (.eq) (.un (.cell 2) (.bin (.idx) (.var 0) (.var 12))) (.un (.cell 2) (.bin (.idx) (.var 1) (.var 12)))) (.bin (.and) (.bin (.eq) (.un (.cell 3) (.bin (.idx) (.var 0) (.var 12))) (.un (.cell 3) (.bin (.idx) (.var 1) (.var 12)))) (.kbool true)))))) (
          .ret (.kbool false))
          (
          .again 0 [.var 11, .bin (.add .i64) (.var 12) (.kint .i64 (1))]))
        (
        .ret (.kbool true))))
def vc64 : VC :=
  .branch (.bin (.ne) (.un (.len) (.var 0)) (.un (.len) (.var 1))) (
    .ret (.kbool false))
    (
    .loop 11 [.kbool false, .kint .i64 (0)] [.bool, .int .i64] (
      .branch (.bin (.lt) (.var 12) (.un (.len) (.var 0))) (
        .obl [] (.bin (.and) (.bin (.le) (.kint .i64 (0)) (.var 12)) (.bin (.lt) (.var 12) (.un (.len) (.var 0)))) <|
        .obl [] (.bin (.and) (.bin (.le) (.kint .i64 (0)) (.var 12)) (.bin (.lt) (.var 12) (.un (.len) (.var 1)))) <|
        .branch (.un (.not) (.bin (.and) (.bin (.eq) (.un (.cell 0) (.bin (.idx) (.var 0) (.var 12))) (.un (.cell 0) (.bin (.idx) (.var 1) (.var 12)))) (.bin (.and) (.bin (.eq) (.un (.cell 1) (.bin (.idx) (.var 0) (.var 12))) (.un (.cell 1) (.bin (.idx) (.var 1) (.var 12)))) (.bin (.and) (.bin (.eq) (.un (.cell 2) (.bin (.idx) (.var 0) (.var 12))) (.un (.cell 2) (.bin (.idx) (.var 1) (.var 12)))) (.bin (.and) (.bin (.eq) (.un (.cell 3) (.bin (.idx) (.var 0) (.var 12))) (.un (.cell 3) (.bin (.idx) (.var 1) (.var 12)))) (.kbool true)))))) (
          .ret (.kbool false))
          (
          .again 0 [.var 11, .bin (.add .i64) (.var 12) (.kint .i64 (1))]))
        (
        .ret (.kbool true))))
def vc60 : VC :=
  .call 54 71 (.cons (.un (.cell 4) (.var 0)) (.cons (.un (.cell 4) (.var 1)) (.nil))) [(.bin (.and) (.bin (.and) (.bin (.and) (.bin (.and) (.bin (.and) (.bin (.eq) (.un (.cell 0) (.var 0)) (.un (.cell 0) (.var 1))) (.bin (.eq) (.un (.cell 1) (.var 0)) (.un (.cell 1) (.var 1)))) (.bin (.eq) (.un (.cell 2) (.var 0)) (.un (.cell 2) (.var 1)))) (.bin (.eq) (.un (.cell 3) (.var 0)) (.un (.cell 3) (.var 1)))) (.bin (.eq) (.un (.cell 5) (.var 0)) (.un (.cell 5) (.var 1)))) (.bin (.beq) (.un (.cell 6) (.var 0)) (.un (.cell 6) (.var 1))), true)] <|
  .ret (.bin (.and) (.bin (.and) (.bin (.and) (.bin (.and) (.bin (.and) (.bin (.and) (.bin (.eq) (.un (.cell 0) (.var 0)) (.un (.cell 0) (.var 1))) (.bin (.eq) (.un (.cell 1) (.var 0)) (.un (.cell 1) (.var 1)))) (.bin (.eq) (.un (.cell 2) (.var 0)) (.un (.cell 2) (.var 1)))) (.bin (.eq) (.un (.cell 3) (.var 0)) (.un (.cell 3) (.var 1)))) (.bin (.eq) (.un (.cell 5) (.var 0)) (.un (.cell 5) (.var 1)))) (.bin (.beq) (.un (.cell 6) (.var 0)) (.un (.cell 6) (.var 1)))) (.var 54))
def vc66 : VC :=
  .call 42 62 (.cons (.un (.cell 4) (.var 0)) (.cons (.un (.cell 4) (.var 1)) (.nil))) [(.bin (.and) (.bin (.and) (.bin (.and) (.bin (.eq) (.un (.cell 0) (.var 0)) (.un (.cell 0) (.var 1))) (.bin (.eq) (.un (.cell 1) (.var 0)) (.un (.cell 1) (.var 1)))) (.bin (.eq) (.un (.cell 2) (.var 0)) (.un (.cell 2) (.var 1)))) (.bin (.eq) (.un (.cell 3) (.var 0)) (.un (.cell 3) (.var 1))), true)] <|
  .ret (.bin (.and) (.bin (.and) (.bin (.and) (.bin (.and) (.bin (.eq) (.un (.cell 0) (.var 0)) (.un (.cell 0) (.var 1))) (.bin (.eq) (.un (.cell 1) (.var 0)) (.un (.cell 1) (.var 1)))) (.bin (.eq) (.un (.cell 2) (.var 0)) (.un (.cell 2) (.var 1)))) (.bin (.eq) (.un (.cell 3) (.var 0)) (.un (.cell 3) (.var 1)))) (.var 42))
def vc59 : VC :=
  .branch (.bin (.ne) (.un (.len) (.var 0)) (.un (.len) (.var 1))) (
    .ret (.kbool false))
    (
    .loop 12 [.kbool false, .kint .i64 (0)] [.bool, .int .i64] (
      .branch (.bin (.lt) (.var 13) (.un (.len) (.var 0))) (
        .obl [] (.bin (.and) (.bin (.le) (.kint .i64 (0)) (.var 13)) (.bin (.lt) (.var 13) (.un (.len) (.var 0)))) <|
        .obl [] (.bin (.and) (.bin (.le) (.kint .i64 (0)) (.var 13)) (.bin (.lt) (.var 13) (.un (.len) (.var 1)))) <|
        .call 30 60 (.cons (.un (.agg) (.cons (.un (.cell 0) (.bin (.idx) (.var 0) (.var 13))) (.cons (.un (.cell 1) (.bin (.idx) (.var 0) (.var 13))) (.cons (.un (.cell 2) (.bin (.idx) (.var 0) (.var 13))) (.cons (.un (.cell 3) (.bin (.idx) (.var 0) (.var 13))) (.cons (.un (.cell 4) (.bin (.idx) (.var 0) (.var 13))) (.cons (.un (.cell 5) (.bin (.idx) (.var 0) (.var 13))) (.cons (.un (.cell 6) (.bin (.idx) (.var 0) (.var 13))) (.nil))))))))) (.cons (.un (.agg) (.cons (.un (.cell 0) (.bin (.idx) (.var 1) (.var 13))) (.cons (.un (.cell 1) (.bin (.idx) (.var 1) (.var 13))) (.cons (.un (.cell 2) (.bin (.idx) (.var 1) (.var 13))) (.cons (.un (.cell 3) (.bin (.idx) (.var 1) (.var 13))) (.cons (.un (.cell 4) (.bin (.idx) (.var 1) (.var 13))) (.cons (.un (.cell 5) (.bin (.idx) (.var 1) (.var 13))) (.cons (.un (.cell 6) (.bin (.idx) (.var 1) (.var 13))) (.nil))))))))) (.nil))) [] <|
        .branch (.un (.not) (.var 30)) (
          .ret (.kbool false))
          (
          .again 0 [.var 12, .bin (.add .i64) (.var 13) (.kint .i64 (1))]))
        (
        .ret (.kbool true))))
def vc65 : VC :=
  .branch (.bin (.ne) (.un (.len) (.var 0)) (.un (.len) (.var 1))) (
    .ret (.kbool false))
    (
    .loop 12 [.kbool false, .kint .i64 (0)] [.bool, .int .i64] (
      .branch (.bin (.lt) (.var 13) (.un (.len) (.var 0))) (
        .obl [] (.bin (.and) (.bin (.le) (.kint .i64 (0)) (.var 13)) (.bin (.lt) (.var 13) (.un (.len) (.var 0)))) <|
        .obl [] (.bin (.and) (.bin (.le) (.kint .i64 (0)) (.var 13)) (.bin (.lt) (.var 13) (.un (.len) (.var 1)))) <|
        .call 30 66 (.cons (.un (.agg) (.cons (.un (.cell 0) (.bin (.idx) (.var 0) (.var 13))) (.cons (.un (.cell 1) (.bin (.idx) (.var 0) (.var 13))) (.cons (.un (.cell 2) (.bin (.idx) (.var 0) (.var 13))) (.cons (.un (.cell 3) (.bin (.idx) (.var 0) (.var 13))) (.cons (.un (.cell 4) (.bin (.idx) (.var 0) (.var 13))) (.nil))))))) (.cons (.un (.agg) (.cons (.un (.cell 0) (.bin (.idx) (.var 1) (.var 13))) (.cons (.un (.cell 1) (.bin (.idx) (.var 1) (.var 13))) (.cons (.un (.cell 2) (.bin (.idx) (.var 1) (.var 13))) (.cons (.un (.cell 3) (.bin (.idx) (.var 1) (.var 13))) (.cons (.un (.cell 4) (.bin (.idx) (.var 1) (.var 13))) (.nil))))))) (.nil))) [] <|
        .branch (.un (.not) (.var 30)) (
          .ret (.kbool false))
          (
          .again 0 [.var 12, .bin (.add .i64) (.var 13) (.kint .i64 (1))]))
        (
        .ret (.kbool true))))
def vc33 : VC :=
  .call 22 59 (.cons (.un (.cell 2) (.var 0)) (.cons (.un (.cell 2) (.var 1)) (.cons (.un (.fnc 60) (.nil)) (.nil)))) [(.bin (.and) (.bin (.eq) (.un (.cell 0) (.var 0)) (.un (.cell 0) (.var 1))) (.bin (.eq) (.un (.cell 1) (.var 0)) (.un (.cell 1) (.var 1))), true)] <|
  .call 29 59 (.cons (.un (.cell 3) (.var 0)) (.cons (.un (.cell 3) (.var 1)) (.cons (.un (.fnc 60) (.nil)) (.nil)))) [(.bin (.and) (.bin (.and) (.bin (.eq) (.un (.cell 0) (.var 0)) (.un (.cell 0) (.var 1))) (.bin (.eq) (.un (.cell 1) (.var 0)) (.un (.cell 1) (.var 1)))) (.var 22), true)] <|
  .call 36 61 (.cons (.un (.cell 4) (.var 0)) (.cons (.un (.cell 4) (.var 1)) (.nil))) [(.bin (.and) (.bin (.and) (.bin (.and) (.bin (.eq) (.un (.cell 0) (.var 0)) (.un (.cell 0) (.var 1))) (.bin (.eq) (.un (.cell 1) (.var 0)) (.un (.cell 1) (.var 1)))) (.var 22)) (.var 29), true)] <|
  .call 43 62 (.cons (.un (.cell 5) (.var 0)) (.cons (.un (.cell 5) (.var 1)) (.nil))) [(.bin (.and) (.bin (.and) (.bin (.and) (.bin (.and) (.bin (.eq) (.un (.cell 0) (.var 0)) (.un (.cell 0) (.var 1))) (.bin (.eq) (.un (.cell 1) (.var 0)) (.un (.cell 1) (.var 1)))) (.var 22)) (.var 29)) (.var 36), true)] <|
  .call 50 63 (.cons (.un (.cell 6) (.var 0)) (.cons (.un (.cell 6) (.var 1)) (.nil))) [(.bin (.and) (.bin (.and) (.bin (.and) (.bin (.and) (.bin (.and) (.bin (.eq) (.un (.cell 0) (.var 0)) (.un (.cell 0) (.var 1))) (.bin (.eq) (.un (.cell 1) (.var 0)) (.un (.cell 1) (.var 1)))) (.var 22)) (.var 29)) (.var 36)) (.var 43), true)] <|
  .call 57 64 (.cons (.un (.cell 7) (.var 0)) (.cons (.un (.cell 7) (.var 1)) (.nil))) [(.bin (.and) (.bin (.and) (.bin (.and) (.bin (.and) (.bin (.and) (.bin (.and) (.bin (.eq) (.un (.cell 0) (.var 0)) (.un (.cell 0) (.var 1))) (.bin (.eq) (.un (.cell 1) (.var 0)) (.un (.cell 1) (.var 1)))) (.var 22)) (.var 29)) (.var 36)) (.var 43)) (.var 50), true)] <|
  .call 64 65 (.cons (.un (.cell 8) (.var 0)) (.cons (.un (.cell 8) (.var 1)) (.cons (.un (.fnc 66) (.nil)) (.nil)))) [(.bin (.and) (.bin (.and) (.bin (.and) (.bin (.and) (.bin (.and) (.bin (.and) (.bin (.and) (.bin (.eq) (.un (.cell 0) (.var 0)) (.un (.cell 0) (.var 1))) (.bin (.eq) (.un (.cell 1) (.var 0)) (.un (.cell 1) (.var 1)))) (.var 22)) (.var 29)) (.var 36)) (.var 43)) (.var 50)) (.var 57), true)] <|
  .ret (.bin (.and) (.bin (.and) (.bin (.and) (.bin (.and) (.bin (.and) (.bin (.and) (.bin (.and) (.bin (.and) (.bin (.eq) (.un (.cell 0) (.var 0)) (.un (.cell 0) (.var 1))) (.bin (.eq) (.un (.cell 1) (.var 0)) (.un (.cell 1) (.var 1)))) (.var 22)) (.var 29)) (.var 36)) (.var 43)) (.var 50)) (.var 57)) (.var 64))
def vc70 : VC :=
  .branch (.bin (.or) (.bin (.or) (.bin (.or) (.bin (.or) (.bin (.or) (.bin (.or) (.bin (.ne) (.un (.cell 0) (.var 0)) (.un (.cell 0) (.var 1))) (.bin (.ne) (.un (.cell 1) (.var 0)) (.un (.cell 1) (.var 1)))) (.bin (.ne) (.un (.cell 2) (.var 0)) (.un (.cell 2) (.var 1)))) (.bin (.ne) (.un (.cell 3) (.var 0)) (.un (.cell 3) (.var 1)))) (.bin (.ne) (.un (.cell 5) (.var 0)) (.un (.cell 5) (.var 1)))) (.un (.not) (.bin (.beq) (.un (.cell 6) (.var 0)) (.un (.cell 6) (.var 1))))) (.bin (.ne) (.un (.len) (.un (.cell 4) (.var 0))) (.un (.len) (.un (.cell 4) (.var 1))))) (
    .ret (.kbool false))
    (
    .loop 55 [.kbool false, .kint .i64 (0)] [.bool, .int .i64] (
      .branch (.bin (.lt) (.var 56) (.un (.len) (.un (.cell 4) (.var 0)))) (
        .obl [] (.bin (.and) (.bin (.le) (.kint .i64 (0)) (.var 56)) (.bin (.lt) (.var 56) (.un (.len) (.un (.cell 4) (.var 0))))) <|
        .obl [] (.bin (.and) (.bin (.le) (.kint .i64 (0)) (.var 56)) (.bin (.lt) (.var 56) (.un (.len) (.un (.cell 4) (.var 1))))) <|
        .branch (.un (.not) (.bin (.and) (.bin (.eq) (.un (.cell 0) (.bin (.idx) (.un (.cell 4) (.var 0)) (.var 56))) (.un (.cell 0) (.bin (.idx) (.un (.cell 4) (.var 1)) (.var 56)))) (.bin (.and) (.bin (.and) (.bin (.eq) (.un (.cell 1) (.bin (.idx) (.un (.cell 4) (.var 0)) (.var 56))) (.un (.cell 1) (.bin (.idx) (.un (.cell 4) (.var 1)) (.var 56)))) (.bin (.and) (.bin (.eq) (.un (.cell 2) (.bin (.idx) (.un (.cell 4) (.var 0)) (.var 56))) (.un (.cell 2) (.bin (.idx) (.un (.cell 4) (.var 1)) (.var 56)))) (.kbool true))) (.kbool true)))) (
          .ret (.kbool false))
          (
          .again 0 [.var 55, .bin (.add .i64) (.var 56) (.kint .i64 (1))]))
        (
        .ret (.kbool true))))
def vc56 : VC :=
  .branch (.bin (.ne) (.un (.len) (.var 0)) (.un (.len) (.var 1))) (
    .ret (.kbool false))
    (
    .loop 9 [.kbool false, .kint .i64 (0)] [.bool, .int .i64] (
      .branch (.bin (.lt) (.var 10) (.un (.len) (.var 0))) (
        .obl [] (.bin (.and) (.bin (.le) (.kint .i64 (0)) (.var 10)) (.bin (.lt) (.var 10) (.un (.len) (.var 0)))) <|
        .obl [] (.bin (.and) (.bin (.le) (.kint .i64 (0)) (.var 10)) (.bin (.lt) (.var 10) (.un (.len) (.var 1)))) <|
        .call 23 70 (.cons (.bin (.idx) (.var 0) (.var 10)) (.cons (.bin (.idx) (.var 1) (.var 10)) (.nil))) [] <|
        .branch (.un (.not) (.var 23)) (
          .ret (.kbool false))
          (
          .again 0 [.var 9, .bin (.add .i64) (.var 10) (.kint .i64 (1))]))
        (
        .ret (.kbool true))))
def vc57 : VC :=
  .branch (.bin (.ne) (.un (.len) (.var 0)) (.un (.len) (.var 1))) (
    .ret (.kbool false))
    (
    .loop 9 [.kbool false, .kint .i64 (0)] [.bool, .int .i64] (
      .branch (.bin (.lt) (.var 10) (.un (.len) (.var 0))) (
        .obl [] (.bin (.and) (.bin (.le) (.kint .i64 (0)) (.var 10)) (.bin (.lt) (.var 10) (.un (.len) (.var 0)))) <|
        .obl [] (.bin (.and) (.bin (.le) (.kint .i64 (0)) (.var 10)) (.bin (.lt) (.var 10) (.un (.len) (.var 1)))) <|
        .branch (.un (.not) (.bin (.and) (.bin (.eq) (.un (.cell 0) (.bin (.idx) (.var 0) (.var 10))) (.un (.cell 0) (.bin (.idx) (.var 1) (.var 10)))) (.bin (.and) (.bin (.eq) (.un (.cell 1) (.bin (.idx) (.var 0) (.var 10))) (.un (.cell 1) (.bin (.idx) (.var 1) (.var 10)))) (.bin (.and) (.bin (.eq) (.un (.cell 2) (.bin (.idx) (.var 0) (.var 10))) (.un (.cell 2) (.bin (.idx) (.var 1) (.var 10)))) (.bin (.and) (.bin (.eq) (.un (.cell 3) (.bin (.idx) (.var 0) (.var 10))) (.un (.cell 3) (.bin (.idx) (.var 1) (.var 10)))) (.bin (.and) (.bin (.eq) (.un (.cell 4) (.bin (.idx) (.var 0) (.var 10))) (.un (.cell 4) (.bin (.idx) (.var 1) (.var 10)))) (.bin (.and) (.bin (.eq) (.un (.cell 5) (.bin (.idx) (.var 0) (.var 10))) (.un (.cell 5) (.bin (.idx) (.var 1) (.var 10)))) (.bin (.and) (.bin (.eq) (.un (.cell 6) (.bin (.idx) (.var 0) (.var 10))) (.un (.cell 6) (.bin (.idx) (.var 1) (.var 10)))) (.bin (.and) (.bin (.and) (.bin (.eq) (.un (.cell 7) (.bin (.idx) (.var 0) (.var 10))) (.un (.cell 7) (.bin (.idx) (.var 1) (.var 10)))) (.bin (.and) (.bin (.eq) (.un (.cell 8) (.bin (.idx) (.var 0) (.var 10))) (.un (.cell 8) (.bin (.idx) (.var 1) (.var 10)))) (.kbool true))) (.bin (.and) (.bin (.beq) (.un (.cell 9) (.bin (.idx) (.var 0) (.var 10))) (.un (.cell 9) (.bin (.idx) (.var 1) (.var 10)))) (.bin (.and) (.bin (.eq) (.un (.cell 10) (.bin (.idx) (.var 0) (.var 10))) (.un (.cell 10) (.bin (.idx) (.var 1) (.var 10)))) (.kbool true)))))))))))) (
          .ret (.kbool false))
          (
          .again 0 [.var 9, .bin (.add .i64) (.var 10) (.kint .i64 (1))]))
        (
        .ret (.kbool true))))
def vc58 : VC :=
  .call 9 57 (.cons (.un (.cell 2) (.var 0)) (.cons (.un (.cell 2) (.var 1)) (.nil))) [] <|
  .ret (.bin (.and) (.bin (.and) (.var 9) (.bin (.eq) (.un (.cell 0) (.var 0)) (.un (.cell 0) (.var 1)))) (.bin (.eq) (.un (.cell 1) (.var 0)) (.un (.cell 1) (.var 1))))
def vc31 : VC :=
  .call 9 56 (.cons (.un (.cell 2) (.var 0)) (.cons (.un (.cell 2) (.var 1)) (.nil))) [] <|
  .call 15 56 (.cons (.un (.cell 3) (.var 0)) (.cons (.un (.cell 3) (.var 1)) (.nil))) [] <|
  .call 21 57 (.cons (.un (.cell 5) (.var 0)) (.cons (.un (.cell 5) (.var 1)) (.nil))) [] <|
  .branch (.bin (.or) (.bin (.or) (.bin (.or) (.bin (.or) (.bin (.or) (.bin (.or) (.bin (.or) (.bin (.or) (.un (.not) (.var 9)) (.un (.not) (.var 15))) (.un (.not) (.var 21))) (.bin (.ne) (.un (.cell 0) (.var 0)) (.un (.cell 0) (.var 1)))) (.bin (.ne) (.un (.cell 1) (.var 0)) (.un (.cell 1) (.var 1)))) (.bin (.ne) (.un (.len) (.un (.cell 4) (.var 0))) (.un (.len) (.un (.cell 4) (.var 1))))) (.bin (.ne) (.un (.len) (.un (.cell 6) (.var 0))) (.un (.len) (.un (.cell 6) (.var 1))))) (.bin (.ne) (.un (.len) (.un (.cell 7) (.var 0))) (.un (.len) (.un (.cell 7) (.var 1))))) (.bin (.ne) (.un (.len) (.un (.cell 8) (.var 0))) (.un (.len) (.un (.cell 8) (.var 1))))) (
    .ret (.kbool false))
    (
    .loop 84 [.kbool false, .kint .i64 (0)] [.bool, .int .i64] (
      .branch (.bin (.lt) (.var 85) (.un (.len) (.un (.cell 4) (.var 0)))) (
        .obl [] (.bin (.and) (.bin (.le) (.kint .i64 (0)) (.var 85)) (.bin (.lt) (.var 85) (.un (.len) (.un (.cell 4) (.var 0))))) <|
        .obl [] (.bin (.and) (.bin (.le) (.kint .i64 (0)) (.var 85)) (.bin (.lt) (.var 85) (.un (.len) (.un (.cell 4) (.var 1))))) <|
        .branch (.un (.not) (.bin (.and) (.bin (.eq) (.un (.cell 0) (.bin (.idx) (.un (.cell 4) (.var 0)) (.var 85))) (.un (.cell 0) (.bin (.idx) (.un (.cell 4) (.var 1)) (.var 85)))) (.bin (.and) (.bin (.and) (.bin (.eq) (.un (.cell 1) (.bin (.idx) (.un (.cell 4) (.var 0)) (.var 85))) (.un (.cell 1) (.bin (.idx) (.un (.cell 4) (.var 1)) (.var 85)))) (.bin (.and) (.bin (.eq) (.un (.cell 2) (.bin (.idx) (.un (.cell 4) (.var 0)) (.var 85))) (.un (.cell 2) (.bin (.idx) (.un (.cell 4) (.var 1)) (.var 85)))) (.kbool true))) (.bin (.and) (.bin (.beq) (.un (.cell 3) (.bin (.idx) (.un (.cell 4) (.var 0)) (.var 85))) (.un (.cell 3) (.bin (.idx) (.un (.cell 4) (.var 1)) (.var 85)))) (.bin (.and) (.bin (.beq) (.un (.cell 4) (.bin (.idx) (.un (.cell 4) (.var 0)) (.var 85))) (.un (.cell 4) (.bin (.idx) (.un (.cell 4) (.var 1)) (.var 85)))) (.bin (.and) (.bin (.eq) (.un (.cell 5) (.bin (.idx) (.un (.cell 4) (.var 0)) (.var 85))) (.un (.cell 5) (.bin (.idx) (.un (.cell 4) (.var 1)) (.var 85)))) (.bin (.and) (.bin (.eq) (.un (.cell 6) (.bin (.idx) (.un (.cell 4) (.var 0)) (.var 85))) (.un (.cell 6) (.bin (.idx) (.un (.cell 4) (.var 1)) (.var 85)))) (.bin (.and) (.bin (.eq) (.un (.cell 7) (.bin (.idx) (.un (.cell 4) (.var 0)) (.var 85))) (.un (.cell 7) (.bin (.idx) (.un (.cell 4) (.var 1)) (.var 85)))) (.kbool true))))))))) (
          .ret (.kbool false))
          (
          .again 0 [.var 84, .bin (.add .i64) (.var 85) (.kint .i64 (1))]))
        (
        .loop 92 [.var 84, .kint .i64 (0)] [.bool, .int .i64] (
          .branch (.bin (.lt) (.var 93) (.un (.len) (.un (.cell 6) (.var 0)))) (
            .obl [] (.bin (.and) (.bin (.le) (.kint .i64 (0)) (.var 93)) (.bin (.lt) (.var 93) (.un (.len) (.un (.cell 6) (.var 0))))) <|
            .obl [] (.bin (.and) (.bin (.le) (.kint .i64 (0)) (.var 93)) (.bin (.lt) (.var 93) (.un (.len) (.un (.cell 6) (.var 1))))) <|
            .branch (.un (.not) (.bin (.and) (.bin (.eq) (.un (.cell 0) (.bin (.idx) (.un (.cell 6) (.var 0)) (.var 93))) (.un (.cell 0) (.bin (.idx) (.un (.cell 6) (.var 1)) (.var 93)))) (.bin (.and) (.bin (.eq) (.un (.cell 1) (.bin (.idx) (.un (.cell 6) (.var 0)) (.var 93))) (.un (.cell 1) (.bin (.idx) (.un (.cell 6) (.var 1)) (.var 93)))) (.bin (.and) (.bin (.eq) (.un (.cell 2) (.bin (.idx) (.un (.cell 6) (.var 0)) (.var 93))) (.un (.cell 2) (.bin (.idx) (.un (.cell 6) (.var 1)) (.var 93)))) (.bin (.and) (.bin (.eq) (.un (.cell 3) (.bin (.idx) (.un (.cell 6) (.var 0)) (.var 93))) (.un (.cell 3) (.bin (.idx) (.un (.cell 6) (.var 1)) (.var 93)))) (.kbool true)))))) (
              .ret (.kbool false))
              (
              .again 0 [.var 92, .bin (.add .i64) (.var 93) (.kint .i64 (1))]))
            (
            .loop 100 [.var 92, .kint .i64 (0)] [.bool, .int .i64] (
              .branch (.bin (.lt) (.var 101) (.un (.len) (.un (.cell 7) (.var 0)))) (
                .obl [] (.bin (.and) (.bin (.le) (.kint .i64 (0)) (.var 101)) (.bin (.lt) (.var 101) (.un (.len) (.un (.cell 7) (.var 0))))) <|
                .obl [] (.bin (.and) (.bin (.le) (.kint .i64 (0)) (.var 101)) (.bin (.lt) (.var 101) (.un (.len) (.un (.cell 7) (.var 1))))) <|
                .branch (.un (.not) (.bin (.and) (.bin (.eq) (.un (.cell 0) (.bin (.idx) (.un (.cell 7) (.var 0)) (.var 101))) (.un (.cell 0) (.bin (.idx) (.un (.cell 7) (.var 1)) (.var 101)))) (.bin (.and) (.bin (.eq) (.un (.cell 1) (.bin (.idx) (.un (.cell 7) (.var 0)) (.var 101))) (.un (.cell 1) (.bin (.idx) (.un (.cell 7) (.var 1)) (.var 101)))) (.bin (.and) (.bin (.eq) (.un (.cell 2) (.bin (.idx) (.un (.cell 7) (.var 0)) (.var 101))) (.un (.cell 2) (.bin (.idx) (.un (.cell 7) (.var 1)) (.var 101)))) (.bin (.and) (.bin (.eq) (.un (.cell 3) (.bin (.idx) (.un (.cell 7) (.var 0)) (.var 101))) (.un (.cell 3) (.bin (.idx) (.un (.cell 7) (.var 1)) (.var 101)))) (.kbool true)))))) (
                  .ret (.kbool false))
                  (
                  .again 0 [.var 100, .bin (.add .i64) (.var 101) (.kint .i64 (1))]))
                (
                .loop 108 [.var 100, .kint .i64 (0)] [.bool, .int .i64] (
                  .branch (.bin (.lt) (.var 109) (.un (.len) (.un (.cell 8) (.var 0)))) (
                    .obl [] (.bin (.and) (.bin (.le) (.kint .i64 (0)) (.var 109)) (.bin (.lt) (.var 109) (.un (.len) (.un (.cell 8) (.var 0))))) <|
                    .obl [] (.bin (.and) (.bin (.le) (.kint .i64 (0)) (.var 109)) (.bin (.lt) (.var 109) (.un (.len) (.un (.cell 8) (.var 1))))) <|
                    .call 127 58 (.cons (.un (.part 2 3) (.bin (.idx) (.un (.cell 8) (.var 0)) (.var 109))) (.cons (.un (.part 2 3) (.bin (.idx) (.un (.cell 8) (.var 1)) (.var 109))) (.nil))) [] <|
                    .obl [(.un (.not) (.var 127), false)] (.bin (.and) (.bin (.le) (.kint .i64 (0)) (.var 109)) (.bin (.lt) (.var 109) (.un (.len) (.un (.cell 8) (.var 0))))) <|
                    .obl [(.un (.not) (.var 127), false)] (.bin (.and) (.bin (.le) (.kint .i64 (0)) (.var 109)) (.bin (.lt) (.var 109) (.un (.len) (.un (.cell 8) (.var 1))))) <|
                    .obl [(.bin (.or) (.un (.not) (.var 127)) (.bin (.ne) (.un (.cell 0) (.bin (.idx) (.un (.cell 8) (.var 0)) (.var 109))) (.un (.cell 0) (.bin (.idx) (.un (.cell 8) (.var 1)) (.var 109)))), false)] (.bin (.and) (.bin (.le) (.kint .i64 (0)) (.var 109)) (.bin (.lt) (.var 109) (.un (.len) (.un (.cell 8) (.var 0))))) <|
                    .obl [(.bin (.or) (.un (.not) (.var 127)) (.bin (.ne) (.un (.cell 0) (.bin (.idx) (.un (.cell 8) (.var 0)) (.var 109))) (.un (.cell 0) (.bin (.idx) (.un (.cell 8) (.var 1)) (.var 109)))), false)] (.bin (.and) (.bin (.le) (.kint .i64 (0)) (.var 109)) (.bin (.lt) (.var 109) (.un (.len) (.un (.cell 8) (.var 1))))) <|
                    .branch (.bin (.or) (.bin (.or) (.un (.not) (.var 127)) (.bin (.ne) (.un (.cell 0) (.bin (.idx) (.un (.cell 8) (.var 0)) (.var 109))) (.un (.cell 0) (.bin (.idx) (.un (.cell 8) (.var 1)) (.var 109))))) (.bin (.ne) (.un (.cell 1) (.bin (.idx) (.un (.cell 8) (.var 0)) (.var 109))) (.un (.cell 1) (.bin (.idx) (.un (.cell 8) (.var 1)) (.var 109))))) (
                      .ret (.kbool false))
                      (
                      .again 0 [.var 108, .bin (.add .i64) (.var 109) (.kint .i64 (1))]))
                    (
                    .ret (.kbool true))))))))))
def vccopyF : VC :=
  .loop 11 [.kint .i64 (0), .un (.cell 0) (.var 0), .un (.cell 1) (.var 0), .nil, .nil, .nil, .nil, .nil, .nil, .nil] [.int .i64, .int .i64, .int .i64, .list (.agg (.cons (.int .i64) (.cons (.int .i64) (.cons (.int .i64) (.cons (.int .i64) (.cons (.list (.agg (.cons (.int .i64) (.cons (.int .i64) (.cons (.int .i64) (.nil)))))) (.cons (.int .i64) (.cons (.bool) (.nil))))))))), .list (.agg (.cons (.int .i64) (.cons (.int .i64) (.cons (.int .i64) (.cons (.int .i64) (.cons (.list (.agg (.cons (.int .i64) (.cons (.int .i64) (.cons (.int .i64) (.nil)))))) (.cons (.int .i64) (.cons (.bool) (.nil))))))))), .list (.agg (.cons (.int .i64) (.cons (.int .i64) (.cons (.int .i64) (.cons (.bool) (.cons (.bool) (.cons (.int .i64) (.cons (.int .i64) (.cons (.int .i64) (.nil)))))))))), .list (.agg (.cons (.int .i64) (.cons (.int .i64) (.cons (.int .i64) (.cons (.int .i64) (.cons (.int .i64) (.cons (.int .i64) (.cons (.int .i64) (.cons (.int .i64) (.cons (.int .i64) (.cons (.bool) (.cons (.int .i64) (.nil))))))))))))), .list (.agg (.cons (.int .i64) (.cons (.int .i64) (.cons (.int .i64) (.cons (.int .i64) (.nil)))))), .list (.agg (.cons (.int .i64) (.cons (.int .i64) (.cons (.int .i64) (.cons (.int .i64) (.nil)))))), .list (.agg (.cons (.int .i64) (.cons (.int .i64) (.cons (.int .i64) (.cons (.int .i64) (.cons (.list (.agg (.cons (.int .i64) (.cons (.int .i64) (.cons (.int .i64) (.cons (.int .i64) (.cons (.int .i64) (.cons (.int .i64) (.cons (.int .i64) (.cons (.int .i64) (.cons (.int .i64) (.cons (.bool) (.cons (.int .i64) (.nil)))))))))))))) (.nil)))))))] (
    .branch (.bin (.lt) (.var 11) (.un (.len) (.un (.cell 2) (.var 0)))) (
      .obl [] (.bin (.and) (.bin (.le) (.kint .i64 (0)) (.var 11)) (.bin (.lt) (.var 11) (.un (.len) (.un (.cell 2) (.var 0))))) <|
      .call 33 39 (.cons (.bin (.idx) (.un (.cell 2) (.var 0)) (.var 11)) (.nil)) [] <|
      .room [] (.bin (.cat) (.var 14) (.cons (.un (.agg) (.cons (.un (.cell 0) (.var 33)) (.cons (.un (.cell 1) (.var 33)) (.cons (.un (.cell 2) (.var 33)) (.cons (.un (.cell 3) (.var 33)) (.cons (.un (.cell 4) (.var 33)) (.cons (.un (.cell 5) (.var 33)) (.cons (.un (.cell 6) (.var 33)) (.nil))))))))) (.nil))) 72 <|
      .again 0 [.bin (.add .i64) (.var 11) (.kint .i64 (1)), .var 12, .var 13, .bin (.cat) (.var 14) (.cons (.un (.agg) (.cons (.un (.cell 0) (.var 33)) (.cons (.un (.cell 1) (.var 33)) (.cons (.un (.cell 2) (.var 33)) (.cons (.un (.cell 3) (.var 33)) (.cons (.un (.cell 4) (.var 33)) (.cons (.un (.cell 5) (.var 33)) (.cons (.un (.cell 6) (.var 33)) (.nil))))))))) (.nil)), .var 15, .var 16, .var 17, .var 18, .var 19, .var 20])
      (
      .loop 27 [.kint .i64 (0), .var 12, .var 13, .var 14, .var 15, .var 16, .var 17, .var 18, .var 19, .var 20] [.int .i64, .int .i64, .int .i64, .list (.agg (.cons (.int .i64) (.cons (.int .i64) (.cons (.int .i64) (.cons (.int .i64) (.cons (.list (.agg (.cons (.int .i64) (.cons (.int .i64) (.cons (.int .i64) (.nil)))))) (.cons (.int .i64) (.cons (.bool) (.nil))))))))), .list (.agg (.cons (.int .i64) (.cons (.int .i64) (.cons (.int .i64) (.cons (.int .i64) (.cons (.list (.agg (.cons (.int .i64) (.cons (.int .i64) (.cons (.int .i64) (.nil)))))) (.cons (.int .i64) (.cons (.bool) (.nil))))))))), .list (.agg (.cons (.int .i64) (.cons (.int .i64) (.cons (.int .i64) (.cons (.bool) (.cons (.bool) (.cons (.int .i64) (.cons (.int .i64) (.cons (.int .i64) (.nil)))))))))), .list (.agg (.cons (.int .i64) (.cons (.int .i64) (.cons (.int .i64) (.cons (.int .i64) (.cons (.int .i64) (.cons (.int .i64) (.cons (.int .i64) (.cons (.int .i64) (.cons (.int .i64) (.cons (.bool) (.cons (.int .i64) (.nil))))))))))))), .list (.agg (.cons (.int .i64) (.cons (.int .i64) (.cons (.int .i64) (.cons (.int .i64) (.nil)))))), .list (.agg (.cons (.int .i64) (.cons (.int .i64) (.cons (.int .i64) (.cons (.int .i64) (.nil)))))), .list (.agg (.cons (.int .i64) (.cons (.int .i64) (.cons (.int .i64) (.cons (.int .i64) (.cons (.list (.agg (.cons (.int .i64) (.cons (.int .i64) (.cons (.int .i64) (.cons (.int .i64) (.cons (.int .i64) (.cons (.int .i64) (.cons (.int .i64) (.cons (.int .i64) (.cons (.int .i64) (.cons (.bool) (.cons (.int .i64) (.nil)))))))))))))) (.nil)))))))] (
        .branch (.bin (.lt) (.var 27) (.un (.len) (.un (.cell 3) (.var 0)))) (
          .obl [] (.bin (.and) (.bin (.le) (.kint .i64 (0)) (.var 27)) (.bin (.lt) (.var 27) (.un (.len) (.un (.cell 3) (.var 0))))) <|
          .call 49 39 (.cons (.bin (.idx) (.un (.cell 3) (.var 0)) (.var 27)) (.nil)) [] <|
          .room [] (.bin (.cat) (.var 31) (.cons (.un (.agg) (.cons (.un (.cell 0) (.var 49)) (.cons (.un (.cell 1) (.var 49)) (.cons (.un (.cell 2) (.var 49)) (.cons (.un (.cell 3) (.var 49)) (.cons (.un (.cell 4) (.var 49)) (.cons (.un (.cell 5) (.var 49)) (.cons (.un (.cell 6) (.var 49)) (.nil))))))))) (.nil))) 72 <|
          .again 0 [.bin (.add .i64) (.var 27) (.kint .i64 (1)), .var 28, .var 29, .var 30, .bin (.cat) (.var 31) (.cons (.un (.agg) (.cons (.un (.cell 0) (.var 49)) (.cons (.un (.cell 1) (.var 49)) (.cons (.un (.cell 2) (.var 49)) (.cons (.un (.cell 3) (.var 49)) (.cons (.un (.cell 4) (.var 49)) (.cons (.un (.cell 5) (.var 49)) (.cons (.un (.cell 6) (.var 49)) (.nil))))))))) (.nil)), .var 32, .var 33, .var 34, .var 35, .var 36])
          (
          .room [] (.bin (.cat) (.var 32) (.un (.cell 4) (.var 0))) 56 <|
          .room [] (.bin (.cat) (.var 33) (.un (.cell 5) (.var 0))) 88 <|
          .room [] (.bin (.cat) (.var 34) (.un (.cell 6) (.var 0))) 32 <|
          .room [] (.bin (.cat) (.var 35) (.un (.cell 7) (.var 0))) 32 <|
          .loop 71 [.kint .i64 (0), .var 28, .var 29, .var 30, .var 31, .bin (.cat) (.var 32) (.un (.cell 4) (.var 0)), .bin (.cat) (.var 33) (.un (.cell 5) (.var 0)), .bin (.cat) (.var 34) (.un (.cell 6) (.var 0)), .bin (.cat) (.var 35) (.un (.cell 7) (.var 0)), .var 36] [.int .i64, .int .i64, .int .i64, .list (.agg (.cons (.int .i64) (.cons (.int .i64) (.cons (.int .i64) (.cons (.int .i64) (.cons (.list (.agg (.cons (.int .i64) (.cons (.int .i64) (.cons (.int .i64) (.nil)))))) (.cons (.int .i64) (.cons (.bool) (.nil))))))))), .list (.agg (.cons (.int .i64) (.cons (.int .i64) (.cons (.int .i64) (.cons (.int .i64) (.cons (.list (.agg (.cons (.int .i64) (.cons (.int .i64) (.cons (.int .i64) (.nil)))))) (.cons (.int .i64) (.cons (.bool) (.nil))))))))), .list (.agg (.cons (.int .i64) (.cons (.int .i64) (.cons (.int .i64) (.cons (.bool) (.cons (.bool) (.cons (.int .i64) (.cons (.int .i64) (.cons (.int .i64) (.nil)))))))))), .list (.agg (.cons (.int .i64) (.cons (.int .i64) (.cons (.int .i64) (.cons (.int .i64) (.cons (.int .i64) (.cons (.int .i64) (.cons (.int .i64) (.cons (.int .i64) (.cons (.int .i64) (.cons (.bool) (.cons (.int .i64) (.nil))))))))))))), .list (.agg (.cons (.int .i64) (.cons (.int .i64) (.cons (.int .i64) (.cons (.int .i64) (.nil)))))), .list (.agg (.cons (.int .i64) (.cons (.int .i64) (.cons (.int .i64) (.cons (.int .i64) (.nil)))))), .list (.agg (.cons (.int .i64) (.cons (.int .i64) (.cons (.int .i64) (.cons (.int .i64) (.cons (.list (.agg (.cons (.int .i64) (.cons (.int .i64) (.cons (.int .i64) (.cons (.int .i64) (.cons (.int .i64) (.cons (.int .i64) (.cons (.int .i64) (.cons (.int .i64) (.cons (.int .i64) (.cons (.bool) (.cons (.int .i64) (.nil)))))))))))))) (.nil)))))))] (
            .branch (.bin (.lt) (.var 71) (.un (.len) (.un (.cell 8) (.var 0)))) (
              .obl [] (.bin (.and) (.bin (.le) (.kint .i64 (0)) (.var 71)) (.bin (.lt) (.var 71) (.un (.len) (.un (.cell 8) (.var 0))))) <|
              .room [] (.bin (.cat) (.nil) (.un (.cell 4) (.bin (.idx) (.un (.cell 8) (.var 0)) (.var 71)))) 88 <|
              .room [] (.bin (.cat) (.var 80) (.cons (.un (.agg) (.cons (.un (.cell 0) (.bin (.idx) (.un (.cell 8) (.var 0)) (.var 71))) (.cons (.un (.cell 1) (.bin (.idx) (.un (.cell 8) (.var 0)) (.var 71))) (.cons (.un (.cell 2) (.bin (.idx) (.un (.cell 8) (.var 0)) (.var 71))) (.cons (.un (.cell 3) (.bin (.idx) (.un (.cell 8) (.var 0)) (.var 71))) (.cons (.bin (.cat) (.nil) (.un (.cell 4) (.bin (.idx) (.un (.cell 8) (.var 0)) (.var 71)))) (.nil))))))) (.nil))) 56 <|
              .again 0 [.bin (.add .i64) (.var 71) (.kint .i64 (1)), .var 72, .var 73, .var 74, .var 75, .var 76, .var 77, .var 78, .var 79, .bin (.cat) (.var 80) (.cons (.un (.agg) (.cons (.un (.cell 0) (.bin (.idx) (.un (.cell 8) (.var 0)) (.var 71))) (.cons (.un (.cell 1) (.bin (.idx) (.un (.cell 8) (.var 0)) (.var 71))) (.cons (.un (.cell 2) (.bin (.idx) (.un (.cell 8) (.var 0)) (.var 71))) (.cons (.un (.cell 3) (.bin (.idx) (.un (.cell 8) (.var 0)) (.var 71))) (.cons (.bin (.cat) (.nil) (.un (.cell 4) (.bin (.idx) (.un (.cell 8) (.var 0)) (.var 71)))) (.nil))))))) (.nil))])
              (
              .ret (.un (.agg) (.cons (.var 72) (.cons (.var 73) (.cons (.var 74) (.cons (.var 75) (.cons (.var 76) (.cons (.var 77) (.cons (.var 78) (.cons (.var 79) (.cons (.var 80) (.nil)))))))))))))))))
def vcchangedW : VC :=
  .branch (.bin (.lt) (.var 1) (.kint .i64 (0))) (
    .obl [] (.bin (.ne) (.kint .i64 (10)) (.kint .i64 (0))) <|
    .branch (.bin (.eq) (.bin (.rem .i64) (.un (.neg .i64) (.bin (.add .i64) (.var 1) (.kint .i64 (1)))) (.kint .i64 (10))) (.kint .i64 (0))) (
      .ret (.un (.agg) (.cons (.bin (.xor .i64) (.un (.cell 0) (.var 0)) (.kint .i64 (1))) (.cons (.un (.cell 1) (.var 0)) (.cons (.un (.cell 2) (.var 0)) (.cons (.un (.cell 3) (.var 0)) (.cons (.un (.cell 4) (.var 0)) (.cons (.un (.cell 5) (.var 0)) (.cons (.un (.cell 6) (.var 0)) (.cons (.un (.cell 7) (.var 0)) (.cons (.un (.cell 8) (.var 0)) (.nil))))))))))))
      (
      .branch (.bin (.eq) (.bin (.rem .i64) (.un (.neg .i64) (.bin (.add .i64) (.var 1) (.kint .i64 (1)))) (.kint .i64 (10))) (.kint .i64 (1))) (
        .ret (.un (.agg) (.cons (.un (.cell 0) (.var 0)) (.cons (.bin (.xor .i64) (.un (.cell 1) (.var 0)) (.kint .i64 (1))) (.cons (.un (.cell 2) (.var 0)) (.cons (.un (.cell 3) (.var 0)) (.cons (.un (.cell 4) (.var 0)) (.cons (.un (.cell 5) (.var 0)) (.cons (.un (.cell 6) (.var 0)) (.cons (.un (.cell 7) (.var 0)) (.cons (.un (.cell 8) (.var 0)) (.nil))))))))))))
        (
        .branch (.bin (.eq) (.bin (.rem .i64) (.un (.neg .i64) (.bin (.add .i64) (.var 1) (.kint .i64 (1)))) (.kint .i64 (10))) (.kint .i64 (2))) (
          .branch (.bin (.gt) (.un (.len) (.un (.cell 2) (.var 0))) (.kint .i64 (0))) (
            .obl [] (.bin (.and) (.bin (.le) (.kint .i64 (0)) (.kint .i64 (0))) (.bin (.lt) (.kint .i64 (0)) (.un (.len) (.un (.cell 2) (.var 0))))) <|
            .obl [] (.bin (.and) (.bin (.le) (.kint .i64 (0)) (.kint .i64 (0))) (.bin (.lt) (.kint .i64 (0)) (.un (.len) (.un (.cell 2) (.var 0))))) <|
            .hav 32 [(.un (.cell 2) (.un (.cell 2) (.var 32)), .un (.cell 2) (.var 0)), (.un (.cell 3) (.un (.cell 2) (.var 32)), .un (.cell 3) (.var 0)), (.un (.cell 4) (.un (.cell 2) (.var 32)), .un (.cell 4) (.var 0)), (.un (.cell 5) (.un (.cell 2) (.var 32)), .un (.cell 5) (.var 0)), (.un (.cell 6) (.un (.cell 2) (.var 32)), .un (.cell 6) (.var 0)), (.un (.cell 7) (.un (.cell 2) (.var 32)), .un (.cell 7) (.var 0)), (.un (.cell 8) (.un (.cell 2) (.var 32)), .un (.cell 8) (.var 0)), (.un (.cell 2) (.un (.cell 3) (.var 32)), .nil), (.un (.cell 3) (.un (.cell 3) (.var 32)), .nil), (.un (.cell 4) (.un (.cell 3) (.var 32)), .nil), (.un (.cell 5) (.un (.cell 3) (.var 32)), .nil), (.un (.cell 6) (.un (.cell 3) (.var 32)), .nil), (.un (.cell 7) (.un (.cell 3) (.var 32)), .nil), (.un (.cell 8) (.un (.cell 3) (.var 32)), .nil)] <|
            .ret (.un (.agg) (.cons (.un (.cell 0) (.var 0)) (.cons (.un (.cell 1) (.var 0)) (.cons (.un (.cell 2) (.un (.cell 2) (.var 32))) (.cons (.un (.cell 3) (.un (.cell 2) (.var 32))) (.cons (.un (.cell 4) (.un (.cell 2) (.var 32))) (.cons (.un (.cell 5) (.un (.cell 2) (.var 32))) (.cons (.un (.cell 6) (.un (.cell 2) (.var 32))) (.cons (.un (.cell 7) (.un (.cell 2) (.var 32))) (.cons (.un (.cell 8) (.un (.cell 2) (.var 32))) (.nil))))))))))))
            (
            .ret (.un (.agg) (.cons (.un (.cell 0) (.var 0)) (.cons (.un (.cell 1) (.var 0)) (.cons (.un (.cell 2) (.var 0)) (.cons (.un (.cell 3) (.var 0)) (.cons (.un (.cell 4) (.var 0)) (.cons (.un (.cell 5) (.var 0)) (.cons (.un (.cell 6) (.var 0)) (.cons (.un (.cell 7) (.var 0)) (.cons (.un (.cell 8) (.var 0)) (.nil)))))))))))))
          (
          .branch (.bin (.eq) (.bin (.rem .i64) (.un (.neg .i64) (.bin (.add .i64) (.var 1) (.kint .i64 (1)))) (.kint .i64 (10))) (.kint .i64 (3))) (
            .obl [(.bin (.gt) (.un (.len) (.un (.cell 2) (.var 0))) (.kint .i64 (0)), true)] (.bin (.and) (.bin (.le) (.kint .i64 (0)) (.kint .i64 (0))) (.bin (.lt) (.kint .i64 (0)) (.un (.len) (.un (.cell 2) (.var 0))))) <|
            .branch (.bin (.and) (.bin (.gt) (.un (.len) (.un (.cell 2) (.var 0))) (.kint .i64 (0))) (.bin (.gt) (.un (.len) (.un (.cell 4) (.bin (.idx) (.un (.cell 2) (.var 0)) (.kint .i64 (0))))) (.kint .i64 (0)))) (
              .obl [] (.bin (.and) (.bin (.le) (.kint .i64 (0)) (.kint .i64 (0))) (.bin (.lt) (.kint .i64 (0)) (.un (.len) (.un (.cell 2) (.var 0))))) <|
              .obl [] (.bin (.and) (.bin (.le) (.kint .i64 (0)) (.kint .i64 (0))) (.bin (.lt) (.kint .i64 (0)) (.un (.len) (.un (.cell 2) (.var 0))))) <|
              .obl [] (.bin (.and) (.bin (.le) (.kint .i64 (0)) (.kint .i64 (0))) (.bin (.lt) (.kint .i64 (0)) (.un (.len) (.un (.cell 4) (.bin (.idx) (.un (.cell 2) (.var 0)) (.kint .i64 (0))))))) <|
              .obl [] (.bin (.and) (.bin (.le) (.kint .i64 (0)) (.kint .i64 (0))) (.bin (.lt) (.kint .i64 (0)) (.un (.len) (.un (.cell 4) (.bin (.idx) (.un (.cell 2) (.var 0)) (.kint .i64 (0))))))) <|
              .hav 49 [(.un (.cell 2) (.un (.cell 2) (.var 49)), .un (.cell 2) (.var 0)), (.un (.cell 3) (.un (.cell 2) (.var 49)), .un (.cell 3) (.var 0)), (.un (.cell 4) (.un (.cell 2) (.var 49)), .un (.cell 4) (.var 0)), (.un (.cell 5) (.un (.cell 2) (.var 49)), .un (.cell 5) (.var 0)), (.un (.cell 6) (.un (.cell 2) (.var 49)), .un (.cell 6) (.var 0)), (.un (.cell 7) (.un (.cell 2) (.var 49)), .un (.cell 7) (.var 0)), (.un (.cell 8) (.un (.cell 2) (.var 49)), .un (.cell 8) (.var 0)), (.un (.cell 2) (.un (.cell 3) (.var 49)), .nil), (.un (.cell 3) (.un (.cell 3) (.var 49)), .nil), (.un (.cell 4) (.un (.cell 3) (.var 49)), .nil), (.un (.cell 5) (.un (.cell 3) (.var 49)), .nil), (.un (.cell 6) (.un (.cell 3) (.var 49)), .nil), (.un (.cell 7) (.un (.cell 3) (.var 49)), .nil), (.un (.cell 8) (.un (.cell 3) (.var 49)), .nil)] <|
              .ret (.un (.agg) (.cons (.un (.cell 0) (.var 0)) (.cons (.un (.cell 1) (.var 0)) (.cons (.un (.cell 2) (.un (.cell 2) (.var 49))) (.cons (.un (.cell 3) (.un (.cell 2) (.var 49))) (.cons (.un (.cell 4) (.un (.cell 2) (.var 49))) (.cons (.un (.cell 5) (.un (.cell 2) (.var 49))) (.cons (.un (.cell 6) (.un (.cell 2) (.var 49))) (.cons (.un (.cell 7) (.un (.cell 2) (.var 49))) (.cons (.un (.cell 8) (.un (.cell 2) (.var 49))) (.nil))))))))))))
              (
              .ret (.un (.agg) (.cons (.un (.cell 0) (.var 0)) (.cons (.un (.cell 1) (.var 0)) (.cons (.un (.cell 2) (.var 0)) (.cons (.un (.cell 3) (.var 0)) (.cons (.un (.cell 4) (.var 0)) (.cons (.un (.cell 5) (.var 0)) (.cons (.un (.cell 6) (.var 0)) (.cons (.un (.cell 7) (.var 0)) (.cons (.un (.cell 8) (.var 0)) (.nil)))))))))))))
            (
            .branch (.bin (.eq) (.bin (.rem .i64) (.un (.neg .i64) (.bin (.add .i64) (.var 1) (.kint .i64 (1)))) (.kint .i64 (10))) (.kint .i64 (4))) (
              .branch (.bin (.gt) (.un (.len) (.un (.cell 3) (.var 0))) (.kint .i64 (0))) (
                .obl [] (.bin (.and) (.bin (.le) (.kint .i64 (0)) (.kint .i64 (0))) (.bin (.lt) (.kint .i64 (0)) (.un (.len) (.un (.cell 3) (.var 0))))) <|
                .obl [] (.bin (.and) (.bin (.le) (.kint .i64 (0)) (.kint .i64 (0))) (.bin (.lt) (.kint .i64 (0)) (.un (.len) (.un (.cell 3) (.var 0))))) <|
                .hav 36 [(.un (.cell 2) (.un (.cell 2) (.var 36)), .un (.cell 2) (.var 0)), (.un (.cell 3) (.un (.cell 2) (.var 36)), .un (.cell 3) (.var 0)), (.un (.cell 4) (.un (.cell 2) (.var 36)), .un (.cell 4) (.var 0)), (.un (.cell 5) (.un (.cell 2) (.var 36)), .un (.cell 5) (.var 0)), (.un (.cell 6) (.un (.cell 2) (.var 36)), .un (.cell 6) (.var 0)), (.un (.cell 7) (.un (.cell 2) (.var 36)), .un (.cell 7) (.var 0)), (.un (.cell 8) (.un (.cell 2) (.var 36)), .un (.cell 8) (.var 0)), (.un (.cell 2) (.un (.cell 3) (.var 36)), .nil), (.un (.cell 3) (.un (.cell 3) (.var 36)), .nil), (.un (.cell 4) (.un (.cell 3) (.var 36)), .nil), (.un (.cell 5) (.un (.cell 3) (.var 36)), .nil), (.un (.cell 6) (.un (.cell 3) (.var 36)), .nil), (.un (.cell 7) (.un (.cell 3) (.var 36)), .nil), (.un (.cell 8) (.un (.cell 3) (.var 36)), .nil)] <|
                .ret (.un (.agg) (.cons (.un (.cell 0) (.var 0)) (.cons (.un (.cell 1) (.var 0)) (.cons (.un (.cell 2) (.un (.cell 2) (.var 36))) (.cons (.un (.cell 3) (.un (.cell 2) (.var 36))) (.cons (.un (.cell 4) (.un (.cell 2) (.var 36))) (.cons (.un (.cell 5) (.un (.cell 2) (.var 36))) (.cons (.un (.cell 6) (.un (.cell 2) (.var 36))) (.cons (.un (.cell 7) (.un (.cell 2) (.var 36))) (.cons (.un (.cell 8) (.un (.cell 2) (.var 36))) (.nil))))))))))))
                (
                .ret (.un (.agg) (.cons (.un (.cell 0) (.var 0)) (.cons (.un (.cell 1) (.var 0)) (.cons (.un (.cell 2) (.var 0)) (.cons (.un (.cell 3) (.var 0)) (.cons (.un (.cell 4) (.var 0)) (.cons (.un (.cell 5) (.var 0)) (.cons (.un (.cell 6) (.var 0)) (.cons (.un (.cell 7) (.var 0)) (.cons (.un (.cell 8) (.var 0)) (.nil)))))))))))))
              (
              .branch (.bin (.eq) (.bin (.rem .i64) (.un (.neg .i64) (.bin (.add .i64) (.var 1) (.kint .i64 (1)))) (.kint .i64 (10))) (.kint .i64 (5))) (
                .branch (.bin (.gt) (.un (.len) (.un (.cell 4) (.var 0))) (.kint .i64 (0))) (
                  .obl [] (.bin (.and) (.bin (.le) (.kint .i64 (0)) (.kint .i64 (0))) (.bin (.lt) (.kint .i64 (0)) (.un (.len) (.un (.cell 4) (.var 0))))) <|
                  .obl [] (.bin (.and) (.bin (.le) (.kint .i64 (0)) (.kint .i64 (0))) (.bin (.lt) (.kint .i64 (0)) (.un (.len) (.un (.cell 4) (.var 0))))) <|
                  .hav 38 [(.un (.cell 2) (.un (.cell 2) (.var 38)), .un (.cell 2) (.var 0)), (.un (.cell 3) (.un (.cell 2) (.var 38)), .un (.cell 3) (.var 0)), (.un (.cell 4) (.un (.cell 2) (.var 38)), .un (.cell 4) (.var 0)), (.un (.cell 5) (.un (.cell 2) (.var 38)), .un (.cell 5) (.var 0)), (.un (.cell 6) (.un (.cell 2) (.var 38)), .un (.cell 6) (.var 0)), (.un (.cell 7) (.un (.cell 2) (.var 38)), .un (.cell 7) (.var 0)), (.un (.cell 8) (.un (.cell 2) (.var 38)), .un (.cell 8) (.var 0)), (.un (.cell 2) (.un (.cell 3) (.var 38)), .nil), (.un (.cell 3) (.un (.cell 3) (.var 38)), .nil), (.un (.cell 4) (.un (.cell 3) (.var 38)), .nil), (.un (.cell 5) (.un (.cell 3) (.var 38)), .nil), (.un (.cell 6) (.un (.cell 3) (.var 38)), .nil), (.un (.cell 7) (.un (.cell 3) (.var 38)), .nil), (.un (.cell 8) (.un (.cell 3) (.var 38)), .nil)] <|
                  .ret (.un (.agg) (.cons (.un (.cell 0) (.var 0)) (.cons (.un (.cell 1) (.var 0)) (.cons (.un (.cell 2) (.un (.cell 2) (.var 38))) (.cons (.un (.cell 3) (.un (.cell 2) (.var 38))) (.cons (.un (.cell 4) (.un (.cell 2) (.var 38))) (.cons (.un (.cell 5) (.un (.cell 2) (.var 38))) (.cons (.un (.cell 6) (.un (.cell 2) (.var 38))) (.cons (.un (.cell 7) (.un (.cell 2) (.var 38))) (.cons (.un (.cell 8) (.un (.cell 2) (.var 38))) (.nil))))))))))))
                  (
                  .ret (.un (.agg) (.cons (.un (.cell 0) (.var 0)) (.cons (.un (.cell 1) (.var 0)) (.cons (.un (.cell 2) (.var 0)) (.cons (.un (.cell 3) (.var 0)) (.cons (.un (.cell 4) (.var 0)) (.cons (.un (.cell 5) (.var 0)) (.cons (.un (.cell 6) (.var 0)) (.cons (.un (.cell 7) (.var 0)) (.cons (.un (.cell 8) (.var 0)) (.nil)))))))))))))
                (
                .branch (.bin (.eq) (.bin (.rem .i64) (.un (.neg .i64) (.bin (.add .i64) (.var 1) (.kint .i64 (1)))) (.kint .i64 (10))) (.kint .i64 (6))) (
                  .branch (.bin (.gt) (.un (.len) (.un (.cell 5) (.var 0))) (.kint .i64 (0))) (
                    .obl [] (.bin (.and) (.bin (.le) (.kint .i64 (0)) (.kint .i64 (0))) (.bin (.lt) (.kint .i64 (0)) (.un (.len) (.un (.cell 5) (.var 0))))) <|
                    .obl [] (.bin (.and) (.bin (.le) (.kint .i64 (0)) (.kint .i64 (0))) (.bin (.lt) (.kint .i64 (0)) (.un (.len) (.un (.cell 5) (.var 0))))) <|
                    .hav 40 [(.un (.cell 2) (.un (.cell 2) (.var 40)), .un (.cell 2) (.var 0)), (.un (.cell 3) (.un (.cell 2) (.var 40)), .un (.cell 3) (.var 0)), (.un (.cell 4) (.un (.cell 2) (.var 40)), .un (.cell 4) (.var 0)), (.un (.cell 5) (.un (.cell 2) (.var 40)), .un (.cell 5) (.var 0)), (.un (.cell 6) (.un (.cell 2) (.var 40)), .un (.cell 6) (.var 0)), (.un (.cell 7) (.un (.cell 2) (.var 40)), .un (.cell 7) (.var 0)), (.un (.cell 8) (.un (.cell 2) (.var 40)), .un (.cell 8) (.var 0)), (.un (.cell 2) (.un (.cell 3) (.var 40)), .nil), (.un (.cell 3) (.un (.cell 3) (.var 40)), .nil), (.un (.cell 4) (.un (.cell 3) (.var 40)), .nil), (.un (.cell 5) (.un (.cell 3) (.var 40)), .nil), (.un (.cell 6) (.un (.cell 3) (.var 40)), .nil), (.un (.cell 7) (.un (.cell 3) (.var 40)), .nil), (.un (.cell 8) (.un (.cell 3) (.var 40)), .nil)] <|
                    .ret (.un (.agg) (.cons (.un (.cell 0) (.var 0)) (.cons (.un (.cell 1) (.var 0)) (.cons (.un (.cell 2) (.un (.cell 2) (.var 40))) (.cons (.un (.cell 3) (.un (.cell 2) (.var 40))) (.cons (.un (.cell 4) (.un (.cell 2) (.var 40))) (.cons (.un (.cell 5) (.un (.cell 2) (.var 40))) (.cons (.un (.cell 6) (.un (.cell 2) (.var 40))) (.cons (.un (.cell 7) (.un (.cell 2) (.var 40))) (.cons (.un (.cell 8) (.un (.cell 2) (.var 40))) (.nil))))))))))))
                    (
                    .ret (.un (.agg) (.cons (.un (.cell 0) (.var 0)) (.cons (.un (.cell 1) (.var 0)) (.cons (.un (.cell 2) (.var 0)) (.cons (.un (.cell 3) (.var 0)) (.cons (.un (.cell 4) (.var 0)) (.cons (.un (.cell 5) (.var 0)) (.cons (.un (.cell 6) (.var 0)) (.cons (.un (.cell 7) (.var 0)) (.cons (.un (.cell 8) (.var 0)) (.nil)))))))))))))
                  (
                  .branch (.bin (.eq) (.bin (.rem .i64) (.un (.neg .i64) (.bin (.add .i64) (.var 1) (.kint .i64 (1)))) (.kint .i64 (10))) (.kint .i64 (7))) (
                    .branch (.bin (.gt) (.un (.len) (.un (.cell 6) (.var 0))) (.kint .i64 (0))) (
                      .obl [] (.bin (.and) (.bin (.le) (.kint .i64 (0)) (.kint .i64 (0))) (.bin (.lt) (.kint .i64 (0)) (.un (.len) (.un (.cell 6) (.var 0))))) <|
                      .obl [] (.bin (.and) (.bin (.le) (.kint .i64 (0)) (.kint .i64 (0))) (.bin (.lt) (.kint .i64 (0)) (.un (.len) (.un (.cell 6) (.var 0))))) <|
                      .hav 42 [(.un (.cell 2) (.un (.cell 2) (.var 42)), .un (.cell 2) (.var 0)), (.un (.cell 3) (.un (.cell 2) (.var 42)), .un (.cell 3) (.var 0)), (.un (.cell 4) (.un (.cell 2) (.var 42)), .un (.cell 4) (.var 0)), (.un (.cell 5) (.un (.cell 2) (.var 42)), .un (.cell 5) (.var 0)), (.un (.cell 6) (.un (.cell 2) (.var 42)), .un (.cell 6) (.var 0)), (.un (.cell 7) (.un (.cell 2) (.var 42)), .un (.cell 7) (.var 0)), (.un (.cell 8) (.un (.cell 2) (.var 42)), .un (.cell 8) (.var 0)), (.un (.cell 2) (.un (.cell 3) (.var 42)), .nil), (.un (.cell 3) (.un (.cell 3) (.var 42)), .nil), (.un (.cell 4) (.un (.cell 3) (.var 42)), .nil), (.un (.cell 5) (.un (.cell 3) (.var 42)), .nil), (.un (.cell 6) (.un (.cell 3) (.var 42)), .nil), (.un (.cell 7) (.un (.cell 3) (.var 42)), .nil), (.un (.cell 8) (.un (.cell 3) (.var 42)), .nil)] <|
                      .ret (.un (.agg) (.cons (.un (.cell 0) (.var 0)) (.cons (.un (.cell 1) (.var 0)) (.cons (.un (.cell 2) (.un (.cell 2) (.var 42))) (.cons (.un (.cell 3) (.un (.cell 2) (.var 42))) (.cons (.un (.cell 4) (.un (.cell 2) (.var 42))) (.cons (.un (.cell 5) (.un (.cell 2) (.var 42))) (.cons (.un (.cell 6) (.un (.cell 2) (.var 42))) (.cons (.un (.cell 7) (.un (.cell 2) (.var 42))) (.cons (.un (.cell 8) (.un (.cell 2) (.var 42))) (.nil))))))))))))
                      (
                      .ret (.un (.agg) (.cons (.un (.cell 0) (.var 0)) (.cons (.un (.cell 1) (.var 0)) (.cons (.un (.cell 2) (.var 0)) (.cons (.un (.cell 3) (.var 0)) (.cons (.un (.cell 4) (.var 0)) (.cons (.un (.cell 5) (.var 0)) (.cons (.un (.cell 6) (.var 0)) (.cons (.un (.cell 7) (.var 0)) (.cons (.un (.cell 8) (.var 0)) (.nil)))))))))))))
                    (
                    .branch (.bin (.eq) (.bin (.rem .i64) (.un (.neg .i64) (.bin (.add .i64) (.var 1) (.kint .i64 (1)))) (.kint .i64 (10))) (.kint .i64 (8))) (
                      .branch (.bin (.gt) (.un (.len) (.un (.cell 7) (.var 0))) (.kint .i64 (0))) (
                        .obl [] (.bin (.and) (.bin (.le) (.kint .i64 (0)) (.kint .i64 (0))) (.bin (.lt) (.kint .i64 (0)) (.un (.len) (.un (.cell 7) (.var 0))))) <|
                        .obl [] (.bin (.and) (.bin (.le) (.kint .i64 (0)) (.kint .i64 (0))) (.bin (.lt) (.kint .i64 (0)) (.un (.len) (.un (.cell 7) (.var 0))))) <|
                        .hav 44 [(.un (.cell 2) (.un (.cell 2) (.var 44)), .un (.cell 2) (.var 0)), (.un (.cell 3) (.un (.cell 2) (.var 44)), .un (.cell 3) (.var 0)), (.un (.cell 4) (.un (.cell 2) (.var 44)), .un (.cell 4) (.var 0)), (.un (.cell 5) (.un (.cell 2) (.var 44)), .un (.cell 5) (.var 0)), (.un (.cell 6) (.un (.cell 2) (.var 44)), .un (.cell 6) (.var 0)), (.un (.cell 7) (.un (.cell 2) (.var 44)), .un (.cell 7) (.var 0)), (.un (.cell 8) (.un (.cell 2) (.var 44)), .un (.cell 8) (.var 0)), (.un (.cell 2) (.un (.cell 3) (.var 44)), .nil), (.un (.cell 3) (.un (.cell 3) (.var 44)), .nil), (.un (.cell 4) (.un (.cell 3) (.var 44)), .nil), (.un (.cell 5) (.un (.cell 3) (.var 44)), .nil), (.un (.cell 6) (.un (.cell 3) (.var 44)), .nil), (.un (.cell 7) (.un (.cell 3) (.var 44)), .nil), (.un (.cell 8) (.un (.cell 3) (.var 44)), .nil)] <|
                        .ret (.un (.agg) (.cons (.un (.cell 0) (.var 0)) (.cons (.un (.cell 1) (.var 0)) (.cons (.un (.cell 2) (.un (.cell 2) (.var 44))) (.cons (.un (.cell 3) (.un (.cell 2) (.var 44))) (.cons (.un (.cell 4) (.un (.cell 2) (.var 44))) (.cons (.un (.cell 5) (.un (.cell 2) (.var 44))) (.cons (.un (.cell 6) (.un (.cell 2) (.var 44))) (.cons (.un (.cell 7) (.un (.cell 2) (.var 44))) (.cons (.un (.cell 8) (.un (.cell 2) (.var 44))) (.nil))))))))))))
                        (
                        .ret (.un (.agg) (.cons (.un (.cell 0) (.var 0)) (.cons (.un (.cell 1) (.var 0)) (.cons (.un (.cell 2) (.var 0)) (.cons (.un (.cell 3) (.var 0)) (.cons (.un (.cell 4) (.var 0)) (.cons (.un (.cell 5) (.var 0)) (.cons (.un (.cell 6) (.var 0)) (.cons (.un (.cell 7) (.var 0)) (.cons (.un (.cell 8) (.var 0)) (.nil)))))))))))))
                      (
                      .branch (.bin (.eq) (.bin (.rem .i64) (.un (.neg .i64) (.bin (.add .i64) (.var 1) (.kint .i64 (1)))) (.kint .i64 (10))) (.kint .i64 (9))) (
                        .branch (.bin (.gt) (.un (.len) (.un (.cell 8) (.var 0))) (.kint .i64 (0))) (
                          .obl [] (.bin (.and) (.bin (.le) (.kint .i64 (0)) (.kint .i64 (0))) (.bin (.lt) (.kint .i64 (0)) (.un (.len) (.un (.cell 8) (.var 0))))) <|
                          .obl [] (.bin (.and) (.bin (.le) (.kint .i64 (0)) (.kint .i64 (0))) (.bin (.lt) (.kint .i64 (0)) (.un (.len) (.un (.cell 8) (.var 0))))) <|
                          .hav 48 [(.un (.cell 2) (.un (.cell 2) (.var 48)), .un (.cell 2) (.var 0)), (.un (.cell 3) (.un (.cell 2) (.var 48)), .un (.cell 3) (.var 0)), (.un (.cell 4) (.un (.cell 2) (.var 48)), .un (.cell 4) (.var 0)), (.un (.cell 5) (.un (.cell 2) (.var 48)), .un (.cell 5) (.var 0)), (.un (.cell 6) (.un (.cell 2) (.var 48)), .un (.cell 6) (.var 0)), (.un (.cell 7) (.un (.cell 2) (.var 48)), .un (.cell 7) (.var 0)), (.un (.cell 8) (.un (.cell 2) (.var 48)), .un (.cell 8) (.var 0)), (.un (.cell 2) (.un (.cell 3) (.var 48)), .nil), (.un (.cell 3) (.un (.cell 3) (.var 48)), .nil), (.un (.cell 4) (.un (.cell 3) (.var 48)), .nil), (.un (.cell 5) (.un (.cell 3) (.var 48)), .nil), (.un (.cell 6) (.un (.cell 3) (.var 48)), .nil), (.un (.cell 7) (.un (.cell 3) (.var 48)), .nil), (.un (.cell 8) (.un (.cell 3) (.var 48)), .nil)] <|
                          .ret (.un (.agg) (.cons (.un (.cell 0) (.var 0)) (.cons (.un (.cell 1) (.var 0)) (.cons (.un (.cell 2) (.un (.cell 2) (.var 48))) (.cons (.un (.cell 3) (.un (.cell 2) (.var 48))) (.cons (.un (.cell 4) (.un (.cell 2) (.var 48))) (.cons (.un (.cell 5) (.un (.cell 2) (.var 48))) (.cons (.un (.cell 6) (.un (.cell 2) (.var 48))) (.cons (.un (.cell 7) (.un (.cell 2) (.var 48))) (.cons (.un (.cell 8) (.un (.cell 2) (.var 48))) (.nil))))))))))))
                          (
                          .ret (.un (.agg) (.cons (.un (.cell 0) (.var 0)) (.cons (.un (.cell 1) (.var 0)) (.cons (.un (.cell 2) (.var 0)) (.cons (.un (.cell 3) (.var 0)) (.cons (.un (.cell 4) (.var 0)) (.cons (.un (.cell 5) (.var 0)) (.cons (.un (.cell 6) (.var 0)) (.cons (.un (.cell 7) (.var 0)) (.cons (.un (.cell 8) (.var 0)) (.nil)))))))))))))
                        (
                        .ret (.un (.agg) (.cons (.un (.cell 0) (.var 0)) (.cons (.un (.cell 1) (.var 0)) (.cons (.un (.cell 2) (.var 0)) (.cons (.un (.cell 3) (.var 0)) (.cons (.un (.cell 4) (.var 0)) (.cons (.un (.cell 5) (.var 0)) (.cons (.un (.cell 6) (.var 0)) (.cons (.un (.cell 7) (.var 0)) (.cons (.un (.cell 8) (.var 0)) (.nil))))))))))))))))))))))
    (
    .obl [] (.bin (.ne) (.kint .i64 (10)) (.kint .i64 (0))) <|
    .branch (.bin (.eq) (.bin (.rem .i64) (.var 1) (.kint .i64 (10))) (.kint .i64 (0))) (
      .ret (.un (.agg) (.cons (.bin (.xor .i64) (.un (.cell 0) (.var 0)) (.kint .i64 (1))) (.cons (.un (.cell 1) (.var 0)) (.cons (.un (.cell 2) (.var 0)) (.cons (.un (.cell 3) (.var 0)) (.cons (.un (.cell 4) (.var 0)) (.cons (.un (.cell 5) (.var 0)) (.cons (.un (.cell 6) (.var 0)) (.cons (.un (.cell 7) (.var 0)) (.cons (.un (.cell 8) (.var 0)) (.nil))))))))))))
      (
      .branch (.bin (.eq) (.bin (.rem .i64) (.var 1) (.kint .i64 (10))) (.kint .i64 (1))) (
        .ret (.un (.agg) (.cons (.un (.cell 0) (.var 0)) (.cons (.bin (.xor .i64) (.un (.cell 1) (.var 0)) (.kint .i64 (1))) (.cons (.un (.cell 2) (.var 0)) (.cons (.un (.cell 3) (.var 0)) (.cons (.un (.cell 4) (.var 0)) (.cons (.un (.cell 5) (.var 0)) (.cons (.un (.cell 6) (.var 0)) (.cons (.un (.cell 7) (.var 0)) (.cons (.un (.cell 8) (.var 0)) (.nil))))))))))))
        (
        .branch (.bin (.eq) (.bin (.rem .i64) (.var 1) (.kint .i64 (10))) (.kint .i64 (2))) (
          .branch (.bin (.gt) (.un (.len) (.un (.cell 2) (.var 0))) (.kint .i64 (0))) (
            .obl [] (.bin (.and) (.bin (.le) (.kint .i64 (0)) (.kint .i64 (0))) (.bin (.lt) (.kint .i64 (0)) (.un (.len) (.un (.cell 2) (.var 0))))) <|
            .obl [] (.bin (.and) (.bin (.le) (.kint .i64 (0)) (.kint .i64 (0))) (.bin (.lt) (.kint .i64 (0)) (.un (.len) (.un (.cell 2) (.var 0))))) <|
            .hav 28 [(.un (.cell 2) (.un (.cell 2) (.var 28)), .un (.cell 2) (.var 0)), (.un (.cell 3) (.un (.cell 2) (.var 28)), .un (.cell 3) (.var 0)), (.un (.cell 4) (.un (.cell 2) (.var 28)), .un (.cell 4) (.var 0)), (.un (.cell 5) (.un (.cell 2) (.var 28)), .un (.cell 5) (.var 0)), (.un (.cell 6) (.un (.cell 2) (.var 28)), .un (.cell 6) (.var 0)), (.un (.cell 7) (.un (.cell 2) (.var 28)), .un (.cell 7) (.var 0)), (.un (.cell 8) (.un (.cell 2) (.var 28)), .un (.cell 8) (.var 0)), (.un (.cell 2) (.un (.cell 3) (.var 28)), .nil), (.un (.cell 3) (.un (.cell 3) (.var 28)), .nil), (.un (.cell 4) (.un (.cell 3) (.var 28)), .nil), (.un (.cell 5) (.un (.cell 3) (.var 28)), .nil), (.un (.cell 6) (.un (.cell 3) (.var 28)), .nil), (.un (.cell 7) (.un (.cell 3) (.var 28)), .nil), (.un (.cell 8) (.un (.cell 3) (.var 28)), .nil)] <|
            .ret (.un (.agg) (.cons (.un (.cell 0) (.var 0)) (.cons (.un (.cell 1) (.var 0)) (.cons (.un (.cell 2) (.un (.cell 2) (.var 28))) (.cons (.un (.cell 3) (.un (.cell 2) (.var 28))) (.cons (.un (.cell 4) (.un (.cell 2) (.var 28))) (.cons (.un (.cell 5) (.un (.cell 2) (.var 28))) (.cons (.un (.cell 6) (.un (.cell 2) (.var 28))) (.cons (.un (.cell 7) (.un (.cell 2) (.var 28))) (.cons (.un (.cell 8) (.un (.cell 2) (.var 28))) (.nil))))))))))))
            (
            .ret (.un (.agg) (.cons (.un (.cell 0) (.var 0)) (.cons (.un (.cell 1) (.var 0)) (.cons (.un (.cell 2) (.var 0)) (.cons (.un (.cell 3) (.var 0)) (.cons (.un (.cell 4) (.var 0)) (.cons (.un (.cell 5) (.var 0)) (.cons (.un (.cell 6) (.var 0)) (.cons (.un (.cell 7) (.var 0)) (.cons (.un (.cell 8) (.var 0)) (.nil)))))))))))))
          (
          .branch (.bin (.eq) (.bin (.rem .i64) (.var 1) (.kint .i64 (10))) (.kint .i64 (3))) (
            .obl [(.bin (.gt) (.un (.len) (.un (.cell 2) (.var 0))) (.kint .i64 (0)), true)] (.bin (.and) (.bin (.le) (.kint .i64 (0)) (.kint .i64 (0))) (.bin (.lt) (.kint .i64 (0)) (.un (.len) (.un (.cell 2) (.var 0))))) <|
            .branch (.bin (.and) (.bin (.gt) (.un (.len) (.un (.cell 2) (.var 0))) (.kint .i64 (0))) (.bin (.gt) (.un (.len) (.un (.cell 4) (.bin (.idx) (.un (.cell 2) (.var 0)) (.kint .i64 (0))))) (.kint .i64 (0)))) (
              .obl [] (.bin (.and) (.bin (.le) (.kint .i64 (0)) (.kint .i64 (0))) (.bin (.lt) (.kint .i64 (0)) (.un (.len) (.un (.cell 2) (.var 0))))) <|
              .obl [] (.bin (.and) (.bin (.le) (.kint .i64 (0)) (.kint .i64 (0))) (.bin (.lt) (.kint .i64 (0)) (.un (.len) (.un (.cell 2) (.var 0))))) <|
              .obl [] (.bin (.and) (.bin (.le) (.kint .i64 (0)) (.kint .i64 (0))) (.bin (.lt) (.kint .i64 (0)) (.un (.len) (.un (.cell 4) (.bin (.idx) (.un (.cell 2) (.var 0)) (.kint .i64 (0))))))) <|
              .obl [] (.bin (.and) (.bin (.le) (.kint .i64 (0)) (.kint .i64 (0))) (.bin (.lt) (.kint .i64 (0)) (.un (.len) (.un (.cell 4) (.bin (.idx) (.un (.cell 2) (.var 0)) (.kint .i64 (0))))))) <|
              .hav 45 [(.un (.cell 2) (.un (.cell 2) (.var 45)), .un (.cell 2) (.var 0)), (.un (.cell 3) (.un (.cell 2) (.var 45)), .un (.cell 3) (.var 0)), (.un (.cell 4) (.un (.cell 2) (.var 45)), .un (.cell 4) (.var 0)), (.un (.cell 5) (.un (.cell 2) (.var 45)), .un (.cell 5) (.var 0)), (.un (.cell 6) (.un (.cell 2) (.var 45)), .un (.cell 6) (.var 0)), (.un (.cell 7) (.un (.cell 2) (.var 45)), .un (.cell 7) (.var 0)), (.un (.cell 8) (.un (.cell 2) (.var 45)), .un (.cell 8) (.var 0)), (.un (.cell 2) (.un (.cell 3) (.var 45)), .nil), (.un (.cell 3) (.un (.cell 3) (.var 45)), .nil), (.un (.cell 4) (.un (.cell 3) (.var 45)), .nil), (.un (.cell 5) (.un (.cell 3) (.var 45)), .nil), (.un (.cell 6) (.un (.cell 3) (.var 45)), .nil), (.un (.cell 7) (.un (.cell 3) (.var 45)), .nil), (.un (.cell 8) (.un (.cell 3) (.var 45)), .nil)] <|
              .ret (.un (.agg) (.cons (.un (.cell 0) (.var 0)) (.cons (.un (.cell 1) (.var 0)) (.cons (.un (.cell 2) (.un (.cell 2) (.var 45))) (.cons (.un (.cell 3) (.un (.cell 2) (.var 45))) (.cons (.un (.cell 4) (.un (.cell 2) (.var 45))) (.cons (.un (.cell 5) (.un (.cell 2) (.var 45))) (.cons (.un (.cell 6) (.un (.cell 2) (.var 45))) (.cons (.un (.cell 7) (.un (.cell 2) (.var 45))) (.cons (.un (.cell 8) (.un (.cell 2) (.var 45))) (.nil))))))))))))
              (
              .ret (.un (.agg) (.cons (.un (.cell 0) (.var 0)) (.cons (.un (.cell 1) (.var 0)) (.cons (.un (.cell 2) (.var 0)) (.cons (.un (.cell 3) (.var 0)) (.cons (.un (.cell 4) (.var 0)) (.cons (.un (.cell 5) (.var 0)) (.cons (.un (.cell 6) (.var 0)) (.cons (.un (.cell 7) (.var 0)) (.cons (.un (.cell 8) (.var 0)) (.nil)))))))))))))
            (
            .branch (.bin (.eq) (.bin (.rem .i64) (.var 1) (.kint .i64 (10))) (.kint .i64 (4))) (
              .branch (.bin (.gt) (.un (.len) (.un (.cell 3) (.var 0))) (.kint .i64 (0))) (
                .obl [] (.bin (.and) (.bin (.le) (.kint .i64 (0)) (.kint .i64 (0))) (.bin (.lt) (.kint .i64 (0)) (.un (.len) (.un (.cell 3) (.var 0))))) <|
                .obl [] (.bin (.and) (.bin (.le) (.kint .i64 (0)) (.kint .i64 (0))) (.bin (.lt) (.kint .i64 (0)) (.un (.len) (.un (.cell 3) (.var 0))))) <|
                .hav 32 [(.un (.cell 2) (.un (.cell 2) (.var 32)), .un (.cell 2) (.var 0)), (.un (.cell 3) (.un (.cell 2) (.var 32)), .un (.cell 3) (.var 0)), (.un (.cell 4) (.un (.cell 2) (.var 32)), .un (.cell 4) (.var 0)), (.un (.cell 5) (.un (.cell 2) (.var 32)), .un (.cell 5) (.var 0)), (.un (.cell 6) (.un (.cell 2) (.var 32)), .un (.cell 6) (.var 0)), (.un (.cell 7) (.un (.cell 2) (.var 32)), .un (.cell 7) (.var 0)), (.un (.cell 8) (.un (.cell 2) (.var 32)), .un (.cell 8) (.var 0)), (.un (.cell 2) (.un (.cell 3) (.var 32)), .nil), (.un (.cell 3) (.un (.cell 3) (.var 32)), .nil), (.un (.cell 4) (.un (.cell 3) (.var 32)), .nil), (.un (.cell 5) (.un (.cell 3) (.var 32)), .nil), (.un (.cell 6) (.un (.cell 3) (.var 32)), .nil), (.un (.cell 7) (.un (.cell 3) (.var 32)), .nil), (.un (.cell 8) (.un (.cell 3) (.var 32)), .nil)] <|
                .ret (.un (.agg) (.cons (.un (.cell 0) (.var 0)) (.cons (.un (.cell 1) (.var 0)) (.cons (.un (.cell 2) (.un (.cell 2) (.var 32))) (.cons (.un (.cell 3) (.un (.cell 2) (.var 32))) (.cons (.un (.cell 4) (.un (.cell 2) (.var 32))) (.cons (.un (.cell 5) (.un (.cell 2) (.var 32))) (.cons (.un (.cell 6) (.un (.cell 2) (.var 32))) (.cons (.un (.cell 7) (.un (.cell 2) (.var 32))) (.cons (.un (.cell 8) (.un (.cell 2) (.var 32))) (.nil))))))))))))
                (
                .ret (.un (.agg) (.cons (.un (.cell 0) (.var 0)) (.cons (.un (.cell 1) (.var 0)) (.cons (.un (.cell 2) (.var 0)) (.cons (.un (.cell 3) (.var 0)) (.cons (.un (.cell 4) (.var 0)) (.cons (.un (.cell 5) (.var 0)) (.cons (.un (.cell 6) (.var 0)) (.cons (.un (.cell 7) (.var 0)) (.cons (.un (.cell 8) (.var 0)) (.nil)))))))))))))
              (
              .branch (.bin (.eq) (.bin (.rem .i64) (.var 1) (.kint .i64 (10))) (.kint .i64 (5))) (
                .branch (.bin (.gt) (.un (.len) (.un (.cell 4) (.var 0))) (.kint .i64 (0))) (
                  .obl [] (.bin (.and) (.bin (.le) (.kint .i64 (0)) (.kint .i64 (0))) (.bin (.lt) (.kint .i64 (0)) (.un (.len) (.un (.cell 4) (.var 0))))) <|
                  .obl [] (.bin (.and) (.bin (.le) (.kint .i64 (0)) (.kint .i64 (0))) (.bin (.lt) (.kint .i64 (0)) (.un (.len) (.un (.cell 4) (.var 0))))) <|
                  .hav 34 [(.un (.cell 2) (.un (.cell 2) (.var 34)), .un (.cell 2) (.var 0)), (.un (.cell 3) (.un (.cell 2) (.var 34)), .un (.cell 3) (.var 0)), (.un (.cell 4) (.un (.cell 2) (.var 34)), .un (.cell 4) (.var 0)), (.un (.cell 5) (.un (.cell 2) (.var 34)), .un (.cell 5) (.var 0)), (.un (.cell 6) (.un (.cell 2) (.var 34)), .un (.cell 6) (.var 0)), (.un (.cell 7) (.un (.cell 2) (.var 34)), .un (.cell 7) (.var 0)), (.un (.cell 8) (.un (.cell 2) (.var 34)), .un (.cell 8) (.var 0)), (.un (.cell 2) (.un (.cell 3) (.var 34)), .nil), (.un (.cell 3) (.un (.cell 3) (.var 34)), .nil), (.un (.cell 4) (.un (.cell 3) (.var 34)), .nil), (.un (.cell 5) (.un (.cell 3) (.var 34)), .nil), (.un (.cell 6) (.un (.cell 3) (.var 34)), .nil), (.un (.cell 7) (.un (.cell 3) (.var 34)), .nil), (.un (.cell 8) (.un (.cell 3) (.var 34)), .nil)] <|
                  .ret (.un (.agg) (.cons (.un (.cell 0) (.var 0)) (.cons (.un (.cell 1) (.var 0)) (.cons (.un (.cell 2) (.un (.cell 2) (.var 34))) (.cons (.un (.cell 3) (.un (.cell 2) (.var 34))) (.cons (.un (.cell 4) (.un (.cell 2) (.var 34))) (.cons (.un (.cell 5) (.un (.cell 2) (.var 34))) (.cons (.un (.cell 6) (.un (.cell 2) (.var 34))) (.cons (.un (.cell 7) (.un (.cell 2) (.var 34))) (.cons (.un (.cell 8) (.un (.cell 2) (.var 34))) (.nil))))))))))))
                  (
                  .ret (.un (.agg) (.cons (.un (.cell 0) (.var 0)) (.cons (.un (.cell 1) (.var 0)) (.cons (.un (.cell 2) (.var 0)) (.cons (.un (.cell 3) (.var 0)) (.cons (.un (.cell 4) (.var 0)) (.cons (.un (.cell 5) (.var 0)) (.cons (.un (.cell 6) (.var 0)) (.cons (.un (.cell 7) (.var 0)) (.cons (.un (.cell 8) (.var 0)) (.nil)))))))))))))
                (
                .branch (.bin (.eq) (.bin (.rem .i64) (.var 1) (.kint .i64 (10))) (.kint .i64 (6))) (
                  .branch (.bin (.gt) (.un (.len) (.un (.cell 5) (.var 0))) (.kint .i64 (0))) (
                    .obl [] (.bin (.and) (.bin (.le) (.kint .i64 (0)) (.kint .i64 (0))) (.bin (.lt) (.kint .i64 (0)) (.un (.len) (.un (.cell 5) (.var 0))))) <|
                    .obl [] (.bin (.and) (.bin (.le) (.kint .i64 (0)) (.kint .i64 (0))) (.bin (.lt) (.kint .i64 (0)) (.un (.len) (.un (.cell 5) (.var 0))))) <|
                    .hav 36 [(.un (.cell 2) (.un (.cell 2) (.var 36)), .un (.cell 2) (.var 0)), (.un (.cell 3) (.un (.cell 2) (.var 36)), .un (.cell 3) (.var 0)), (.un (.cell 4) (.un (.cell 2) (.var 36)), .un (.cell 4) (.var 0)), (.un (.cell 5) (.un (.cell 2) (.var 36)), .un (.cell 5) (.var 0)), (.un (.cell 6) (.un (.cell 2) (.var 36)), .un (.cell 6) (.var 0)), (.un (.cell 7) (.un (.cell 2) (.var 36)), .un (.cell 7) (.var 0)), (.un (.cell 8) (.un (.cell 2) (.var 36)), .un (.cell 8) (.var 0)), (.un (.cell 2) (.un (.cell 3) (.var 36)), .nil), (.un (.cell 3) (.un (.cell 3) (.var 36)), .nil), (.un (.cell 4) (.un (.cell 3) (.var 36)), .nil), (.un (.cell 5) (.un (.cell 3) (.var 36)), .nil), (.un (.cell 6) (.un (.cell 3) (.var 36)), .nil), (.un (.cell 7) (.un (.cell 3) (.var 36)), .nil), (.un (.cell 8) (.un (.cell 3) (.var 36)), .nil)] <|
                    .ret (.un (.agg) (.cons (.un (.cell 0) (.var 0)) (.cons (.un (.cell 1) (.var 0)) (.cons (.un (.cell 2) (.un (.cell 2) (.var 36))) (.cons (.un (.cell 3) (.un (.cell 2) (.var 36))) (.cons (.un (.cell 4) (.un (.cell 2) (.var 36))) (.cons (.un (.cell 5) (.un (.cell 2) (.var 36))) (.cons (.un (.cell 6) (.un (.cell 2) (.var 36))) (.cons (.un (.cell 7) (.un (.cell 2) (.var 36))) (.cons (.un (.cell 8) (.un (.cell 2) (.var 36))) (.nil))))))))))))
                    (
                    .ret (.un (.agg) (.cons (.un (.cell 0) (.var 0)) (.cons (.un (.cell 1) (.var 0)) (.cons (.un (.cell 2) (.var 0)) (.cons (.un (.cell 3) (.var 0)) (.cons (.un (.cell 4) (.var 0)) (.cons (.un (.cell 5) (.var 0)) (.cons (.un (.cell 6) (.var 0)) (.cons (.un (.cell 7) (.var 0)) (.cons (.un (.cell 8) (.var 0)) (.nil)))))))))))))
                  (
                  .branch (.bin (.eq) (.bin (.rem .i64) (.var 1) (.kint .i64 (10))) (.kint .i64 (7))) (
                    .branch (.bin (.gt) (.un (.len) (.un (.cell 6) (.var 0))) (.kint .i64 (0))) (
                      .obl [] (.bin (.and) (.bin (.le) (.kint .i64 (0)) (.kint .i64 (0))) (.bin (.lt) (.kint .i64 (0)) (.un (.len) (.un (.cell 6) (.var 0))))) <|
                      .obl [] (.bin (.and) (.bin (.le) (.kint .i64 (0)) (.kint .i64 (0))) (.bin (.lt) (.kint .i64 (0)) (.un (.len) (.un (.cell 6) (.var 0))))) <|
                      .hav 38 [(.un (.cell 2) (.un (.cell 2) (.var 38)), .un (.cell 2) (.var 0)), (.un (.cell 3) (.un (.cell 2) (.var 38)), .un (.cell 3) (.var 0)), (.un (.cell 4) (.un (.cell 2) (.var 38)), .un (.cell 4) (.var 0)), (.un (.cell 5) (.un (.cell 2) (.var 38)), .un (.cell 5) (.var 0)), (.un (.cell 6) (.un (.cell 2) (.var 38)), .un (.cell 6) (.var 0)), (.un (.cell 7) (.un (.cell 2) (.var 38)), .un (.cell 7) (.var 0)), (.un (.cell 8) (.un (.cell 2) (.var 38)), .un (.cell 8) (.var 0)), (.un (.cell 2) (.un (.cell 3) (.var 38)), .nil), (.un (.cell 3) (.un (.cell 3) (.var 38)), .nil), (.un (.cell 4) (.un (.cell 3) (.var 38)), .nil), (.un (.cell 5) (.un (.cell 3) (.var 38)), .nil), (.un (.cell 6) (.un (.cell 3) (.var 38)), .nil), (.un (.cell 7) (.un (.cell 3) (.var 38)), .nil), (.un (.cell 8) (.un (.cell 3) (.var 38)), .nil)] <|
                      .ret (.un (.agg) (.cons (.un (.cell 0) (.var 0)) (.cons (.un (.cell 1) (.var 0)) (.cons (.un (.cell 2) (.un (.cell 2) (.var 38))) (.cons (.un (.cell 3) (.un (.cell 2) (.var 38))) (.cons (.un (.cell 4) (.un (.cell 2) (.var 38))) (.cons (.un (.cell 5) (.un (.cell 2) (.var 38))) (.cons (.un (.cell 6) (.un (.cell 2) (.var 38))) (.cons (.un (.cell 7) (.un (.cell 2) (.var 38))) (.cons (.un (.cell 8) (.un (.cell 2) (.var 38))) (.nil))))))))))))
                      (
                      .ret (.un (.agg) (.cons (.un (.cell 0) (.var 0)) (.cons (.un (.cell 1) (.var 0)) (.cons (.un (.cell 2) (.var 0)) (.cons (.un (.cell 3) (.var 0)) (.cons (.un (.cell 4) (.var 0)) (.cons (.un (.cell 5) (.var 0)) (.cons (.un (.cell 6) (.var 0)) (.cons (.un (.cell 7) (.var 0)) (.cons (.un (.cell 8) (.var 0)) (.nil)))))))))))))
                    (
                    .branch (.bin (.eq) (.bin (.rem .i64) (.var 1) (.kint .i64 (10))) (.kint .i64 (8))) (
                      .branch (.bin (.gt) (.un (.len) (.un (.cell 7) (.var 0))) (.kint .i64 (0))) (
                        .obl [] (.bin (.and) (.bin (.le) (.kint .i64 (0)) (.kint .i64 (0))) (.bin (.lt) (.kint .i64 (0)) (.un (.len) (.un (.cell 7) (.var 0))))) <|
                        .obl [] (.bin (.and) (.bin (.le) (.kint .i64 (0)) (.kint .i64 (0))) (.bin (.lt) (.kint .i64 (0)) (.un (.len) (.un (.cell 7) (.var 0))))) <|
                        .hav 40 [(.un (.cell 2) (.un (.cell 2) (.var 40)), .un (.cell 2) (.var 0)), (.un (.cell 3) (.un (.cell 2) (.var 40)), .un (.cell 3) (.var 0)), (.un (.cell 4) (.un (.cell 2) (.var 40)), .un (.cell 4) (.var 0)), (.un (.cell 5) (.un (.cell 2) (.var 40)), .un (.cell 5) (.var 0)), (.un (.cell 6) (.un (.cell 2) (.var 40)), .un (.cell 6) (.var 0)), (.un (.cell 7) (.un (.cell 2) (.var 40)), .un (.cell 7) (.var 0)), (.un (.cell 8) (.un (.cell 2) (.var 40)), .un (.cell 8) (.var 0)), (.un (.cell 2) (.un (.cell 3) (.var 40)), .nil), (.un (.cell 3) (.un (.cell 3) (.var 40)), .nil), (.un (.cell 4) (.un (.cell 3) (.var 40)), .nil), (.un (.cell 5) (.un (.cell 3) (.var 40)), .nil), (.un (.cell 6) (.un (.cell 3) (.var 40)), .nil), (.un (.cell 7) (.un (.cell 3) (.var 40)), .nil), (.un (.cell 8) (.un (.cell 3) (.var 40)), .nil)] <|
                        .ret (.un (.agg) (.cons (.un (.cell 0) (.var 0)) (.cons (.un (.cell 1) (.var 0)) (.cons (.un (.cell 2) (.un (.cell 2) (.var 40))) (.cons (.un (.cell 3) (.un (.cell 2) (.var 40))) (.cons (.un (.cell 4) (.un (.cell 2) (.var 40))) (.cons (.un (.cell 5) (.un (.cell 2) (.var 40))) (.cons (.un (.cell 6) (.un (.cell 2) (.var 40))) (.cons (.un (.cell 7) (.un (.cell 2) (.var 40))) (.cons (.un (.cell 8) (.un (.cell 2) (.var 40))) (.nil))))))))))))
                        (
                        .ret (.un (.agg) (.cons (.un (.cell 0) (.var 0)) (.cons (.un (.cell 1) (.var 0)) (.cons (.un (.cell 2) (.var 0)) (.cons (.un (.cell 3) (.var 0)) (.cons (.un (.cell 4) (.var 0)) (.cons (.un (.cell 5) (.var 0)) (.cons (.un (.cell 6) (.var 0)) (.cons (.un (.cell 7) (.var 0)) (.cons (.un (.cell 8) (.var 0)) (.nil)))))))))))))
                      (
                      .branch (.bin (.eq) (.bin (.rem .i64) (.var 1) (.kint .i64 (10))) (.kint .i64 (9))) (
                        .branch (.bin (.gt) (.un (.len) (.un (.cell 8) (.var 0))) (.kint .i64 (0))) (
                          .obl [] (.bin (.and) (.bin (.le) (.kint .i64 (0)) (.kint .i64 (0))) (.bin (.lt) (.kint .i64 (0)) (.un (.len) (.un (.cell 8) (.var 0))))) <|
                          .obl [] (.bin (.and) (.bin (.le) (.kint .i64 (0)) (.kint .i64 (0))) (.bin (.lt) (.kint .i64 (0)) (.un (.len) (.un (.cell 8) (.var 0))))) <|
                          .hav 44 [(.un (.cell 2) (.un (.cell 2) (.var 44)), .un (.cell 2) (.var 0)), (.un (.cell 3) (.un (.cell 2) (.var 44)), .un (.cell 3) (.var 0)), (.un (.cell 4) (.un (.cell 2) (.var 44)), .un (.cell 4) (.var 0)), (.un (.cell 5) (.un (.cell 2) (.var 44)), .un (.cell 5) (.var 0)), (.un (.cell 6) (.un (.cell 2) (.var 44)), .un (.cell 6) (.var 0)), (.un (.cell 7) (.un (.cell 2) (.var 44)), .un (.cell 7) (.var 0)), (.un (.cell 8) (.un (.cell 2) (.var 44)), .un (.cell 8) (.var 0)), (.un (.cell 2) (.un (.cell 3) (.var 44)), .nil), (.un (.cell 3) (.un (.cell 3) (.var 44)), .nil), (.un (.cell 4) (.un (.cell 3) (.var 44)), .nil), (.un (.cell 5) (.un (.cell 3) (.var 44)), .nil), (.un (.cell 6) (.un (.cell 3) (.var 44)), .nil), (.un (.cell 7) (.un (.cell 3) (.var 44)), .nil), (.un (.cell 8) (.un (.cell 3) (.var 44)), .nil)] <|
                          .ret (.un (.agg) (.cons (.un (.cell 0) (.var 0)) (.cons (.un (.cell 1) (.var 0)) (.cons (.un (.cell 2) (.un (.cell 2) (.var 44))) (.cons (.un (.cell 3) (.un (.cell 2) (.var 44))) (.cons (.un (.cell 4) (.un (.cell 2) (.var 44))) (.cons (.un (.cell 5) (.un (.cell 2) (.var 44))) (.cons (.un (.cell 6) (.un (.cell 2) (.var 44))) (.cons (.un (.cell 7) (.un (.cell 2) (.var 44))) (.cons (.un (.cell 8) (.un (.cell 2) (.var 44))) (.nil))))))))))))
                          (
                          .ret (.un (.agg) (.cons (.un (.cell 0) (.var 0)) (.cons (.un (.cell 1) (.var 0)) (.cons (.un (.cell 2) (.var 0)) (.cons (.un (.cell 3) (.var 0)) (.cons (.un (.cell 4) (.var 0)) (.cons (.un (.cell 5) (.var 0)) (.cons (.un (.cell 6) (.var 0)) (.cons (.un (.cell 7) (.var 0)) (.cons (.un (.cell 8) (.var 0)) (.nil)))))))))))))
                        (
                        .ret (.un (.agg) (.cons (.un (.cell 0) (.var 0)) (.cons (.un (.cell 1) (.var 0)) (.cons (.un (.cell 2) (.var 0)) (.cons (.un (.cell 3) (.var 0)) (.cons (.un (.cell 4) (.var 0)) (.cons (.un (.cell 5) (.var 0)) (.cons (.un (.cell 6) (.var 0)) (.cons (.un (.cell 7) (.var 0)) (.cons (.un (.cell 8) (.var 0)) (.nil))))))))))))))))))))))
def vc7 : VC :=
  .call 8 33 (.cons (.un (.agg) (.cons (.un (.cell 0) (.var 0)) (.cons (.un (.cell 1) (.var 0)) (.cons (.un (.cell 2) (.var 0)) (.cons (.un (.cell 3) (.var 0)) (.cons (.un (.cell 4) (.var 0)) (.cons (.un (.cell 5) (.var 0)) (.cons (.un (.cell 6) (.var 0)) (.cons (.un (.cell 7) (.var 0)) (.cons (.un (.cell 8) (.var 0)) (.nil))))))))))) (.cons (.un (.agg) (.cons (.un (.cell 0) (.var 1)) (.cons (.un (.cell 1) (.var 1)) (.cons (.un (.cell 2) (.var 1)) (.cons (.un (.cell 3) (.var 1)) (.cons (.un (.cell 4) (.var 1)) (.cons (.un (.cell 5) (.var 1)) (.cons (.un (.cell 6) (.var 1)) (.cons (.un (.cell 7) (.var 1)) (.cons (.un (.cell 8) (.var 1)) (.nil))))))))))) (.nil))) [] <|
  .call 11 31 (.cons (.un (.agg) (.cons (.un (.cell 0) (.var 0)) (.cons (.un (.cell 1) (.var 0)) (.cons (.un (.cell 2) (.var 0)) (.cons (.un (.cell 3) (.var 0)) (.cons (.un (.cell 4) (.var 0)) (.cons (.un (.cell 5) (.var 0)) (.cons (.un (.cell 6) (.var 0)) (.cons (.un (.cell 7) (.var 0)) (.cons (.un (.cell 8) (.var 0)) (.nil))))))))))) (.cons (.un (.agg) (.cons (.un (.cell 0) (.var 1)) (.cons (.un (.cell 1) (.var 1)) (.cons (.un (.cell 2) (.var 1)) (.cons (.un (.cell 3) (.var 1)) (.cons (.un (.cell 4) (.var 1)) (.cons (.un (.cell 5) (.var 1)) (.cons (.un (.cell 6) (.var 1)) (.cons (.un (.cell 7) (.var 1)) (.cons (.un (.cell 8) (.var 1)) (.nil))))))))))) (.nil))) [] <|
  .call 16 15 (.cons (.un (.agg) (.cons (.un (.cell 0) (.var 0)) (.cons (.un (.cell 1) (.var 0)) (.cons (.un (.cell 2) (.var 0)) (.cons (.un (.cell 3) (.var 0)) (.cons (.un (.cell 4) (.var 0)) (.cons (.un (.cell 5) (.var 0)) (.cons (.un (.cell 6) (.var 0)) (.cons (.un (.cell 7) (.var 0)) (.cons (.un (.cell 8) (.var 0)) (.nil))))))))))) (.nil)) [(.un (.not) (.bin (.beq) (.var 8) (.var 11)), false)] <|
  .call 17 33 (.cons (.un (.agg) (.cons (.un (.cell 0) (.var 0)) (.cons (.un (.cell 1) (.var 0)) (.cons (.un (.cell 2) (.var 0)) (.cons (.un (.cell 3) (.var 0)) (.cons (.un (.cell 4) (.var 0)) (.cons (.un (.cell 5) (.var 0)) (.cons (.un (.cell 6) (.var 0)) (.cons (.un (.cell 7) (.var 0)) (.cons (.un (.cell 8) (.var 0)) (.nil))))))))))) (.cons (.un (.agg) (.cons (.un (.cell 0) (.var 16)) (.cons (.un (.cell 1) (.var 16)) (.cons (.un (.cell 2) (.var 16)) (.cons (.un (.cell 3) (.var 16)) (.cons (.un (.cell 4) (.var 16)) (.cons (.un (.cell 5) (.var 16)) (.cons (.un (.cell 6) (.var 16)) (.cons (.un (.cell 7) (.var 16)) (.cons (.un (.cell 8) (.var 16)) (.nil))))))))))) (.nil))) [(.un (.not) (.bin (.beq) (.var 8) (.var 11)), false)] <|
  .branch (.bin (.or) (.un (.not) (.bin (.beq) (.var 8) (.var 11))) (.un (.not) (.var 17))) (
    .ret (.kbool false))
    (
    .call 21 15 (.cons (.un (.agg) (.cons (.un (.cell 0) (.var 0)) (.cons (.un (.cell 1) (.var 0)) (.cons (.un (.cell 2) (.var 0)) (.cons (.un (.cell 3) (.var 0)) (.cons (.un (.cell 4) (.var 0)) (.cons (.un (.cell 5) (.var 0)) (.cons (.un (.cell 6) (.var 0)) (.cons (.un (.cell 7) (.var 0)) (.cons (.un (.cell 8) (.var 0)) (.nil))))))))))) (.nil)) [] <|
    .any 23 (.agg (.cons (.int .i64) (.cons (.int .i64) (.cons (.list (.agg (.cons (.int .i64) (.cons (.int .i64) (.cons (.int .i64) (.cons (.int .i64) (.cons (.list (.agg (.cons (.int .i64) (.cons (.int .i64) (.cons (.int .i64) (.nil)))))) (.cons (.int .i64) (.cons (.bool) (.nil)))))))))) (.cons (.list (.agg (.cons (.int .i64) (.cons (.int .i64) (.cons (.int .i64) (.cons (.int .i64) (.cons (.list (.agg (.cons (.int .i64) (.cons (.int .i64) (.cons (.int .i64) (.nil)))))) (.cons (.int .i64) (.cons (.bool) (.nil)))))))))) (.cons (.list (.agg (.cons (.int .i64) (.cons (.int .i64) (.cons (.int .i64) (.cons (.bool) (.cons (.bool) (.cons (.int .i64) (.cons (.int .i64) (.cons (.int .i64) (.nil))))))))))) (.cons (.list (.agg (.cons (.int .i64) (.cons (.int .i64) (.cons (.int .i64) (.cons (.int .i64) (.cons (.int .i64) (.cons (.int .i64) (.cons (.int .i64) (.cons (.int .i64) (.cons (.int .i64) (.cons (.bool) (.cons (.int .i64) (.nil)))))))))))))) (.cons (.list (.agg (.cons (.int .i64) (.cons (.int .i64) (.cons (.int .i64) (.cons (.int .i64) (.nil))))))) (.cons (.list (.agg (.cons (.int .i64) (.cons (.int .i64) (.cons (.int .i64) (.cons (.int .i64) (.nil))))))) (.cons (.list (.agg (.cons (.int .i64) (.cons (.int .i64) (.cons (.int .i64) (.cons (.int .i64) (.cons (.list (.agg (.cons (.int .i64) (.cons (.int .i64) (.cons (.int .i64) (.cons (.int .i64) (.cons (.int .i64) (.cons (.int .i64) (.cons (.int .i64) (.cons (.int .i64) (.cons (.int .i64) (.cons (.bool) (.cons (.int .i64) (.nil)))))))))))))) (.nil)))))))) (.nil))))))))))) <|
    .call 28 33 (.cons (.un (.agg) (.cons (.un (.cell 0) (.var 0)) (.cons (.un (.cell 1) (.var 0)) (.cons (.un (.cell 2) (.var 0)) (.cons (.un (.cell 3) (.var 0)) (.cons (.un (.cell 4) (.var 0)) (.cons (.un (.cell 5) (.var 0)) (.cons (.un (.cell 6) (.var 0)) (.cons (.un (.cell 7) (.var 0)) (.cons (.un (.cell 8) (.var 0)) (.nil))))))))))) (.cons (.un (.agg) (.cons (.un (.cell 0) (.var 23)) (.cons (.un (.cell 1) (.var 23)) (.cons (.un (.cell 2) (.var 23)) (.cons (.un (.cell 3) (.var 23)) (.cons (.un (.cell 4) (.var 23)) (.cons (.un (.cell 5) (.var 23)) (.cons (.un (.cell 6) (.var 23)) (.cons (.un (.cell 7) (.var 23)) (.cons (.un (.cell 8) (.var 23)) (.nil))))))))))) (.nil))) [] <|
    .call 31 31 (.cons (.un (.agg) (.cons (.un (.cell 0) (.var 0)) (.cons (.un (.cell 1) (.var 0)) (.cons (.un (.cell 2) (.var 0)) (.cons (.un (.cell 3) (.var 0)) (.cons (.un (.cell 4) (.var 0)) (.cons (.un (.cell 5) (.var 0)) (.cons (.un (.cell 6) (.var 0)) (.cons (.un (.cell 7) (.var 0)) (.cons (.un (.cell 8) (.var 0)) (.nil))))))))))) (.cons (.un (.agg) (.cons (.un (.cell 0) (.var 23)) (.cons (.un (.cell 1) (.var 23)) (.cons (.un (.cell 2) (.var 23)) (.cons (.un (.cell 3) (.var 23)) (.cons (.un (.cell 4) (.var 23)) (.cons (.un (.cell 5) (.var 23)) (.cons (.un (.cell 6) (.var 23)) (.cons (.un (.cell 7) (.var 23)) (.cons (.un (.cell 8) (.var 23)) (.nil))))))))))) (.nil))) [] <|
    .branch (.un (.not) (.bin (.beq) (.var 28) (.var 31))) (
      .ret (.kbool false))
      (
      .call 33 14 (.nil) [] <|
      .ret (.var 33)))
def vc51 : VC :=
  .branch (.bin (.eq) (.un (.len) (.var 0)) (.kint .i64 (0))) (
    .any 3 (.bool) <|
    .branch (.var 3) (
      .ret (.nil))
      (
      .room [] (.bin (.cat) (.nil) (.var 0)) 56 <|
      .ret (.bin (.cat) (.nil) (.var 0))))
    (
    .any 3 (.bool) <|
    .room [] (.bin (.cat) (.nil) (.var 0)) 56 <|
    .ret (.bin (.cat) (.nil) (.var 0)))
def vc52 : VC :=
  .branch (.bin (.eq) (.un (.len) (.var 0)) (.kint .i64 (0))) (
    .any 3 (.bool) <|
    .branch (.var 3) (
      .ret (.nil))
      (
      .room [] (.bin (.cat) (.nil) (.var 0)) 88 <|
      .ret (.bin (.cat) (.nil) (.var 0))))
    (
    .any 3 (.bool) <|
    .room [] (.bin (.cat) (.nil) (.var 0)) 88 <|
    .ret (.bin (.cat) (.nil) (.var 0)))
def vc53 : VC :=
  .branch (.bin (.eq) (.un (.len) (.var 0)) (.kint .i64 (0))) (
    .any 3 (.bool) <|
    .branch (.var 3) (
      .ret (.nil))
      (
      .room [] (.bin (.cat) (.nil) (.var 0)) 32 <|
      .ret (.bin (.cat) (.nil) (.var 0))))
    (
    .any 3 (.bool) <|
    .room [] (.bin (.cat) (.nil) (.var 0)) 32 <|
    .ret (.bin (.cat) (.nil) (.var 0)))
def vc54 : VC :=
  .branch (.bin (.eq) (.un (.len) (.var 0)) (.kint .i64 (0))) (
    .any 3 (.bool) <|
    .branch (.var 3) (
      .ret (.nil))
      (
      .room [] (.bin (.cat) (.nil) (.var 0)) 32 <|
      .ret (.bin (.cat) (.nil) (.var 0))))
    (
    .any 3 (.bool) <|
    .room [] (.bin (.cat) (.nil) (.var 0)) 32 <|
    .ret (.bin (.cat) (.nil) (.var 0)))
def vc55 : VC :=
  .branch (.bin (.eq) (.un (.len) (.var 0)) (.kint .i64 (0))) (
    .any 3 (.bool) <|
    .branch (.var 3) (
      .ret (.nil))
      (
      .room [] (.bin (.cat) (.nil) (.var 0)) 56 <|
      .ret (.bin (.cat) (.nil) (.var 0))))
    (
    .any 3 (.bool) <|
    .room [] (.bin (.cat) (.nil) (.var 0)) 56 <|
    .ret (.bin (.cat) (.nil) (.var 0)))
def vc74 : VC :=
  .branch (.bin (.eq) (.un (.len) (.var 0)) (.kint .i64 (0))) (
    .any 3 (.bool) <|
    .branch (.var 3) (
      .ret (.nil))
      (
      .room [] (.bin (.cat) (.nil) (.var 0)) 24 <|
      .ret (.bin (.cat) (.nil) (.var 0))))
    (
    .any 3 (.bool) <|
    .room [] (.bin (.cat) (.nil) (.var 0)) 24 <|
    .ret (.bin (.cat) (.nil) (.var 0)))
def vc69 : VC :=
  .call 5 74 (.cons (.un (.cell 4) (.var 0)) (.nil)) [] <|
  .ret (.un (.agg) (.cons (.un (.cell 0) (.var 0)) (.cons (.un (.cell 1) (.var 0)) (.cons (.un (.cell 2) (.var 0)) (.cons (.un (.cell 3) (.var 0)) (.cons (.var 5) (.cons (.un (.cell 5) (.var 0)) (.cons (.un (.cell 6) (.var 0)) (.nil)))))))))
def vc50 : VC :=
  .loop 6 [.nil, .kint .i64 (0)] [.list (.agg (.cons (.int .i64) (.cons (.int .i64) (.cons (.int .i64) (.cons (.int .i64) (.cons (.list (.agg (.cons (.int .i64) (.cons (.int .i64) (.cons (.int .i64) (.nil)))))) (.cons (.int .i64) (.cons (.bool) (.nil))))))))), .int .i64] (
    .branch (.bin (.lt) (.var 7) (.un (.len) (.var 0))) (
      .obl [] (.bin (.and) (.bin (.le) (.kint .i64 (0)) (.var 7)) (.bin (.lt) (.var 7) (.un (.len) (.var 0)))) <|
      .call 15 69 (.cons (.un (.agg) (.cons (.un (.cell 0) (.bin (.idx) (.var 0) (.var 7))) (.cons (.un (.cell 1) (.bin (.idx) (.var 0) (.var 7))) (.cons (.un (.cell 2) (.bin (.idx) (.var 0) (.var 7))) (.cons (.un (.cell 3) (.bin (.idx) (.var 0) (.var 7))) (.cons (.un (.cell 4) (.bin (.idx) (.var 0) (.var 7))) (.cons (.un (.cell 5) (.bin (.idx) (.var 0) (.var 7))) (.cons (.un (.cell 6) (.bin (.idx) (.var 0) (.var 7))) (.nil))))))))) (.nil)) [] <|
      .room [] (.bin (.cat) (.var 6) (.cons (.un (.agg) (.cons (.un (.cell 0) (.var 15)) (.cons (.un (.cell 1) (.var 15)) (.cons (.un (.cell 2) (.var 15)) (.cons (.un (.cell 3) (.var 15)) (.cons (.un (.cell 4) (.var 15)) (.cons (.un (.cell 5) (.var 15)) (.cons (.un (.cell 6) (.var 15)) (.nil))))))))) (.nil))) 72 <|
      .again 0 [.bin (.cat) (.var 6) (.cons (.un (.agg) (.cons (.un (.cell 0) (.var 15)) (.cons (.un (.cell 1) (.var 15)) (.cons (.un (.cell 2) (.var 15)) (.cons (.un (.cell 3) (.var 15)) (.cons (.un (.cell 4) (.var 15)) (.cons (.un (.cell 5) (.var 15)) (.cons (.un (.cell 6) (.var 15)) (.nil))))))))) (.nil)), .bin (.add .i64) (.var 7) (.kint .i64 (1))])
      (
      .ret (.var 6)))
end Go.Proofs.Ytjpkeliliahjoaa
