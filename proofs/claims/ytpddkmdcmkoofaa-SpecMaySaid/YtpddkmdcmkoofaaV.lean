/-
  The functions of this seat, by the engine: what is left of each body, and its contract.
-/
import Derived.Test.YtpddkmdcmkoofaaEngS
import Derived.Test.YtpddkmdcmkoofaaProg
namespace Go.Proofs.Ytpddkmdcmkoofaa
open Go Go.Eng Go.Proofs
def i64c : RCell := (.int .i64, none)
def boolR : Bool × List RCell := (false, [(.bool, none)])
def intR : Bool × List RCell := (false, [(.int .i64, none)])
def resT : Ty := .agg (.ofL [.int .i64, .int .i64])
def resR : Bool × List RCell := (true, [i64c, i64c])
def groupT : Ty := .agg (.ofL [.int .i64, .int .i64, .int .i64])
def jobT : Ty := .agg (.ofL [.int .i64, .int .i64, .int .i64, .int .i64, .list groupT, .int .i64, .bool])
def nodeT : Ty := .agg (.ofL [.int .i64, .int .i64, .int .i64, .bool, .bool, .int .i64, .int .i64, .int .i64])
def addS : Sig := ⟨[resT, resT], [resR, boolR]⟩
def withinS : Sig := ⟨[.int .i64, .int .i64, .int .i64], [boolR]⟩
def okS : Sig := ⟨[.int .i64, .box (.ofL [.int .i64])], [boolR]⟩
def rS : Sig := ⟨[resT, .int .i64], [boolR]⟩
def jobS : Sig := ⟨[jobT], [intR]⟩
def nodeS : Sig := ⟨[nodeT], [intR]⟩
def fitsS : Sig := ⟨[resT, resT, resT], [boolR]⟩
def livesS : Sig := ⟨[], [boolR]⟩
def pairT : Ty := .agg (.ofL [.int .i64, .int .i64, .int .i64, .int .i64])
def sumS : Sig := ⟨[.int .i64, .int .i64], [intR, boolR]⟩
def pairS : Sig := ⟨[pairT, pairT], [boolR]⟩
def tab : List (Nat × Sig) := [(18, withinS), (20, okS), (17, rS), (8, addS), (10, jobS), (15, nodeS), (12, fitsS), (11, addS), (13, fitsS), (14, jobS), (16, nodeS), (19, sumS), (9, livesS)]
def vc18 : VC :=
  .ret (.bin (.and) (.bin (.ge) (.var 0) (.var 1)) (.bin (.le) (.var 0) (.var 2)))
def vc20 : VC :=
  .call 5 18 (.cons (.var 0) (.cons (.kint .i64 (0)) (.cons (.un (.cell 0) (.un (.agg) (.var 1))) (.nil)))) [] <|
  .ret (.var 5)
def vc17 : VC :=
  .call 10 20 (.cons (.un (.cell 0) (.var 0)) (.cons (.un (.cell 0) (.un (.fnc 20) (.cons (.un (.ptrc) (.cons (.var 1) (.nil))) (.nil)))) (.nil))) [] <|
  .call 15 20 (.cons (.un (.cell 1) (.var 0)) (.cons (.un (.cell 0) (.un (.fnc 20) (.cons (.un (.ptrc) (.cons (.var 1) (.nil))) (.nil)))) (.nil))) [(.var 10, true)] <|
  .ret (.bin (.and) (.var 10) (.var 15))
def vc8 : VC :=
  .call 7 17 (.cons (.un (.agg) (.cons (.un (.cell 0) (.var 0)) (.cons (.un (.cell 1) (.var 0)) (.nil)))) (.cons (.kint .i64 (1152921504606846976)) (.nil))) [] <|
  .call 11 17 (.cons (.un (.agg) (.cons (.un (.cell 0) (.var 1)) (.cons (.un (.cell 1) (.var 1)) (.nil)))) (.cons (.kint .i64 (1152921504606846976)) (.nil))) [(.un (.not) (.var 7), false)] <|
  .branch (.bin (.or) (.un (.not) (.var 7)) (.un (.not) (.var 11))) (
    .ret (.un (.tup) (.cons (.un (.agg) (.cons (.kint .i64 (0)) (.cons (.kint .i64 (0)) (.nil)))) (.cons (.kbool false) (.nil)))))
    (
    .call 28 17 (.cons (.un (.agg) (.cons (.bin (.add .i64) (.un (.cell 0) (.var 0)) (.un (.cell 0) (.var 1))) (.cons (.bin (.add .i64) (.un (.cell 1) (.var 0)) (.un (.cell 1) (.var 1))) (.nil)))) (.cons (.kint .i64 (1152921504606846976)) (.nil))) [] <|
    .branch (.un (.not) (.var 28)) (
      .ret (.un (.tup) (.cons (.un (.agg) (.cons (.kint .i64 (0)) (.cons (.kint .i64 (0)) (.nil)))) (.cons (.kbool false) (.nil)))))
      (
      .ret (.un (.tup) (.cons (.un (.agg) (.cons (.bin (.add .i64) (.un (.cell 0) (.var 0)) (.un (.cell 0) (.var 1))) (.cons (.bin (.add .i64) (.un (.cell 1) (.var 0)) (.un (.cell 1) (.var 1))) (.nil)))) (.cons (.kbool true) (.nil))))))
def vc10 : VC :=
  .call 5 18 (.cons (.un (.cell 0) (.var 0)) (.cons (.kint .i64 (1)) (.cons (.kint .i64 (1099511627776)) (.nil)))) [] <|
  .call 9 18 (.cons (.un (.cell 1) (.var 0)) (.cons (.kint .i64 (1)) (.cons (.kint .i64 (3)) (.nil)))) [(.var 5, true)] <|
  .call 14 18 (.cons (.un (.cell 2) (.var 0)) (.cons (.kint .i64 (1)) (.cons (.kint .i64 (100)) (.nil)))) [(.bin (.and) (.var 5) (.var 9), true)] <|
  .call 19 18 (.cons (.un (.cell 3) (.var 0)) (.cons (.kint .i64 (1)) (.cons (.kint .i64 (8)) (.nil)))) [(.bin (.and) (.bin (.and) (.var 5) (.var 9)) (.var 14), true)] <|
  .call 25 18 (.cons (.un (.len) (.un (.cell 4) (.var 0))) (.cons (.kint .i64 (1)) (.cons (.kint .i64 (2)) (.nil)))) [(.bin (.and) (.bin (.and) (.bin (.and) (.var 5) (.var 9)) (.var 14)) (.var 19), true)] <|
  .loop 32 [.bin (.and) (.bin (.and) (.bin (.and) (.bin (.and) (.var 5) (.var 9)) (.var 14)) (.var 19)) (.var 25), .kint .i64 (0)] [.bool, .int .i64] (
    .branch (.bin (.lt) (.var 33) (.un (.len) (.un (.cell 4) (.var 0)))) (
      .obl [] (.bin (.and) (.bin (.le) (.kint .i64 (0)) (.var 33)) (.bin (.lt) (.var 33) (.un (.len) (.un (.cell 4) (.var 0))))) <|
      .call 43 18 (.cons (.un (.cell 0) (.bin (.idx) (.un (.cell 4) (.var 0)) (.var 33))) (.cons (.kint .i64 (0)) (.cons (.kint .i64 (4)) (.nil)))) [(.var 32, true)] <|
      .call 48 17 (.cons (.un (.agg) (.cons (.un (.cell 1) (.bin (.idx) (.un (.cell 4) (.var 0)) (.var 33))) (.cons (.un (.cell 2) (.bin (.idx) (.un (.cell 4) (.var 0)) (.var 33))) (.nil)))) (.cons (.kint .i64 (1099511627776)) (.nil))) [(.bin (.and) (.var 32) (.var 43), true)] <|
      .again 0 [.bin (.and) (.bin (.and) (.bin (.and) (.var 32) (.var 43)) (.var 48)) (.bin (.or) (.bin (.ne) (.un (.cell 1) (.var 0)) (.kint .i64 (3))) (.bin (.eq) (.un (.cell 0) (.bin (.idx) (.un (.cell 4) (.var 0)) (.var 33))) (.kint .i64 (1)))), .bin (.add .i64) (.var 33) (.kint .i64 (1))])
      (
      .branch (.un (.not) (.var 32)) (
        .ret (.kint .i64 (30)))
        (
        .ret (.kint .i64 (0)))))
def vc15 : VC :=
  .call 5 18 (.cons (.un (.cell 0) (.var 0)) (.cons (.kint .i64 (1)) (.cons (.kint .i64 (4)) (.nil)))) [] <|
  .call 10 17 (.cons (.un (.agg) (.cons (.un (.cell 1) (.var 0)) (.cons (.un (.cell 2) (.var 0)) (.nil)))) (.cons (.kint .i64 (1099511627776)) (.nil))) [(.un (.not) (.var 5), false)] <|
  .call 16 18 (.cons (.un (.cell 5) (.var 0)) (.cons (.kint .i64 (1)) (.cons (.kint .i64 (1099511627776)) (.nil)))) [(.bin (.or) (.un (.not) (.var 5)) (.un (.not) (.var 10)), false)] <|
  .branch (.bin (.or) (.bin (.or) (.un (.not) (.var 5)) (.un (.not) (.var 10))) (.un (.not) (.var 16))) (
    .ret (.kint .i64 (31)))
    (
    .ret (.kint .i64 (0)))
def vc12 : VC :=
  .call 9 8 (.cons (.un (.agg) (.cons (.un (.cell 0) (.var 0)) (.cons (.un (.cell 1) (.var 0)) (.nil)))) (.cons (.un (.agg) (.cons (.un (.cell 0) (.var 1)) (.cons (.un (.cell 1) (.var 1)) (.nil)))) (.nil))) [] <|
  .ret (.bin (.and) (.bin (.and) (.un (.cell 1) (.var 9)) (.bin (.le) (.un (.cell 0) (.un (.cell 0) (.var 9))) (.un (.cell 0) (.var 2)))) (.bin (.le) (.un (.cell 1) (.un (.cell 0) (.var 9))) (.un (.cell 1) (.var 2))))
def vc11 : VC :=
  .call 10 19 (.cons (.un (.cell 0) (.var 0)) (.cons (.un (.cell 0) (.var 1)) (.nil))) [] <|
  .call 20 19 (.cons (.un (.cell 1) (.var 0)) (.cons (.un (.cell 1) (.var 1)) (.nil))) [] <|
  .branch (.bin (.or) (.un (.not) (.un (.cell 1) (.var 10))) (.un (.not) (.un (.cell 1) (.var 20)))) (
    .ret (.un (.tup) (.cons (.un (.agg) (.cons (.kint .i64 (0)) (.cons (.kint .i64 (0)) (.nil)))) (.cons (.kbool false) (.nil)))))
    (
    .ret (.un (.tup) (.cons (.un (.agg) (.cons (.un (.cell 0) (.var 10)) (.cons (.un (.cell 0) (.var 20)) (.nil)))) (.cons (.kbool true) (.nil)))))
def vc13 : VC :=
  .call 9 11 (.cons (.un (.agg) (.cons (.un (.cell 0) (.var 0)) (.cons (.un (.cell 1) (.var 0)) (.nil)))) (.cons (.un (.agg) (.cons (.un (.cell 0) (.var 1)) (.cons (.un (.cell 1) (.var 1)) (.nil)))) (.nil))) [] <|
  .ret (.bin (.and) (.bin (.and) (.un (.cell 1) (.var 9)) (.bin (.le) (.un (.cell 0) (.un (.cell 0) (.var 9))) (.un (.cell 0) (.var 2)))) (.bin (.le) (.un (.cell 1) (.un (.cell 0) (.var 9))) (.un (.cell 1) (.var 2))))
def vc14 : VC :=
  .branch (.bin (.or) (.bin (.or) (.bin (.or) (.bin (.or) (.bin (.or) (.bin (.or) (.bin (.or) (.bin (.lt) (.un (.cell 0) (.var 0)) (.kint .i64 (1))) (.bin (.gt) (.un (.cell 0) (.var 0)) (.kint .i64 (1099511627776)))) (.bin (.lt) (.un (.cell 1) (.var 0)) (.kint .i64 (1)))) (.bin (.gt) (.un (.cell 1) (.var 0)) (.kint .i64 (3)))) (.bin (.lt) (.un (.cell 2) (.var 0)) (.kint .i64 (1)))) (.bin (.gt) (.un (.cell 2) (.var 0)) (.kint .i64 (100)))) (.bin (.lt) (.un (.cell 3) (.var 0)) (.kint .i64 (1)))) (.bin (.gt) (.un (.cell 3) (.var 0)) (.kint .i64 (8)))) (
    .ret (.kint .i64 (30)))
    (
    .branch (.bin (.or) (.bin (.lt) (.un (.len) (.un (.cell 4) (.var 0))) (.kint .i64 (1))) (.bin (.gt) (.un (.len) (.un (.cell 4) (.var 0))) (.kint .i64 (2)))) (
      .ret (.kint .i64 (30)))
      (
      .loop 52 [.kint .i64 (0), .kint .i64 (0)] [.int .i64, .int .i64] (
        .branch (.bin (.lt) (.var 53) (.un (.len) (.un (.cell 4) (.var 0)))) (
          .obl [] (.bin (.and) (.bin (.le) (.kint .i64 (0)) (.var 53)) (.bin (.lt) (.var 53) (.un (.len) (.un (.cell 4) (.var 0))))) <|
          .branch (.bin (.or) (.bin (.or) (.bin (.or) (.bin (.or) (.bin (.or) (.bin (.lt) (.un (.cell 0) (.bin (.idx) (.un (.cell 4) (.var 0)) (.var 53))) (.kint .i64 (0))) (.bin (.gt) (.un (.cell 0) (.bin (.idx) (.un (.cell 4) (.var 0)) (.var 53))) (.kint .i64 (4)))) (.bin (.lt) (.un (.cell 1) (.bin (.idx) (.un (.cell 4) (.var 0)) (.var 53))) (.kint .i64 (0)))) (.bin (.gt) (.un (.cell 1) (.bin (.idx) (.un (.cell 4) (.var 0)) (.var 53))) (.kint .i64 (1099511627776)))) (.bin (.lt) (.un (.cell 2) (.bin (.idx) (.un (.cell 4) (.var 0)) (.var 53))) (.kint .i64 (0)))) (.bin (.gt) (.un (.cell 2) (.bin (.idx) (.un (.cell 4) (.var 0)) (.var 53))) (.kint .i64 (1099511627776)))) (
            .ret (.kint .i64 (30)))
            (
            .branch (.bin (.and) (.bin (.eq) (.un (.cell 1) (.var 0)) (.kint .i64 (3))) (.bin (.ne) (.un (.cell 0) (.bin (.idx) (.un (.cell 4) (.var 0)) (.var 53))) (.kint .i64 (1)))) (
              .ret (.kint .i64 (30)))
              (
              .again 0 [.var 52, .bin (.add .i64) (.var 53) (.kint .i64 (1))])))
          (
          .ret (.kint .i64 (0))))))
def vc16 : VC :=
  .branch (.bin (.or) (.bin (.or) (.bin (.or) (.bin (.or) (.bin (.or) (.bin (.or) (.bin (.or) (.bin (.lt) (.un (.cell 0) (.var 0)) (.kint .i64 (1))) (.bin (.gt) (.un (.cell 0) (.var 0)) (.kint .i64 (4)))) (.bin (.lt) (.un (.cell 1) (.var 0)) (.kint .i64 (0)))) (.bin (.gt) (.un (.cell 1) (.var 0)) (.kint .i64 (1099511627776)))) (.bin (.lt) (.un (.cell 2) (.var 0)) (.kint .i64 (0)))) (.bin (.gt) (.un (.cell 2) (.var 0)) (.kint .i64 (1099511627776)))) (.bin (.lt) (.un (.cell 5) (.var 0)) (.kint .i64 (1)))) (.bin (.gt) (.un (.cell 5) (.var 0)) (.kint .i64 (1099511627776)))) (
    .ret (.kint .i64 (31)))
    (
    .ret (.kint .i64 (0)))
def vc9 : VC :=
  .call 8 10 (.cons (.un (.agg) (.cons (.kint .i64 (1)) (.cons (.kint .i64 (1)) (.cons (.kint .i64 (50)) (.cons (.kint .i64 (1)) (.cons (.cons (.un (.agg) (.cons (.kint .i64 (2)) (.cons (.kint .i64 (100)) (.cons (.kint .i64 (200)) (.nil))))) (.nil)) (.cons (.kint .i64 (0)) (.cons (.kbool false) (.nil))))))))) (.nil)) [] <|
  .call 13 10 (.cons (.un (.agg) (.cons (.kint .i64 (1)) (.cons (.kint .i64 (1)) (.cons (.kint .i64 (101)) (.cons (.kint .i64 (1)) (.cons (.cons (.un (.agg) (.cons (.kint .i64 (2)) (.cons (.kint .i64 (100)) (.cons (.kint .i64 (200)) (.nil))))) (.nil)) (.cons (.kint .i64 (0)) (.cons (.kbool false) (.nil))))))))) (.nil)) [] <|
  .call 17 8 (.cons (.un (.agg) (.cons (.kint .i64 (1)) (.cons (.kint .i64 (2)) (.nil)))) (.cons (.un (.agg) (.cons (.kint .i64 (3)) (.cons (.kint .i64 (4)) (.nil)))) (.nil))) [] <|
  .ret (.bin (.and) (.bin (.and) (.bin (.and) (.bin (.eq) (.var 8) (.kint .i64 (0))) (.bin (.eq) (.var 13) (.kint .i64 (30)))) (.un (.cell 1) (.var 17))) (.bin (.and) (.bin (.eq) (.un (.cell 0) (.un (.agg) (.cons (.un (.cell 0) (.un (.cell 0) (.var 17))) (.cons (.un (.cell 1) (.un (.cell 0) (.var 17))) (.nil))))) (.un (.cell 0) (.un (.agg) (.cons (.kint .i64 (4)) (.cons (.kint .i64 (6)) (.nil)))))) (.bin (.and) (.bin (.eq) (.un (.cell 1) (.un (.agg) (.cons (.un (.cell 0) (.un (.cell 0) (.var 17))) (.cons (.un (.cell 1) (.un (.cell 0) (.var 17))) (.nil))))) (.un (.cell 1) (.un (.agg) (.cons (.kint .i64 (4)) (.cons (.kint .i64 (6)) (.nil)))))) (.kbool true))))
def vc3 : VC :=
  .loop 7 [.kbool true, .kint .i64 (0), .kint .i64 (0), .kint .i64 (0)] [.bool, .int .i64, .int .i64, .int .i64] (
    .branch (.bin (.and) (.bin (.lt) (.var 8) (.un (.len) (.var 0))) (.var 7)) (
      .obl [] (.bin (.and) (.bin (.le) (.kint .i64 (0)) (.var 8)) (.bin (.lt) (.var 8) (.un (.len) (.var 0)))) <|
      .call 23 8 (.cons (.un (.agg) (.cons (.var 9) (.cons (.var 10) (.nil)))) (.cons (.bin (.idx) (.var 0) (.var 8)) (.nil))) [] <|
      .again 0 [.un (.cell 1) (.var 23), .bin (.add .i64) (.var 8) (.kint .i64 (1)), .un (.cell 0) (.un (.cell 0) (.var 23)), .un (.cell 1) (.un (.cell 0) (.var 23))])
      (
      .loop 26 [.kbool true, .bin (.sub .i64) (.un (.len) (.var 0)) (.kint .i64 (1)), .kint .i64 (0), .kint .i64 (0)] [.bool, .int .i64, .int .i64, .int .i64] (
        .branch (.bin (.and) (.bin (.ge) (.var 27) (.kint .i64 (0))) (.var 26)) (
          .obl [] (.bin (.and) (.bin (.le) (.kint .i64 (0)) (.var 27)) (.bin (.lt) (.var 27) (.un (.len) (.var 0)))) <|
          .call 40 8 (.cons (.un (.agg) (.cons (.var 28) (.cons (.var 29) (.nil)))) (.cons (.bin (.idx) (.var 0) (.var 27)) (.nil))) [] <|
          .again 0 [.un (.cell 1) (.var 40), .bin (.sub .i64) (.var 27) (.kint .i64 (1)), .un (.cell 0) (.un (.cell 0) (.var 40)), .un (.cell 1) (.un (.cell 0) (.var 40))])
          (
          .branch (.bin (.or) (.un (.not) (.var 7)) (.un (.not) (.var 26))) (
            .call 45 9 (.nil) [(.bin (.beq) (.var 7) (.var 26), true)] <|
            .ret (.bin (.and) (.bin (.beq) (.var 7) (.var 26)) (.var 45)))
            (
            .call 45 9 (.nil) [(.bin (.and) (.bin (.eq) (.un (.cell 0) (.un (.agg) (.cons (.var 9) (.cons (.var 10) (.nil))))) (.un (.cell 0) (.un (.agg) (.cons (.var 28) (.cons (.var 29) (.nil)))))) (.bin (.and) (.bin (.eq) (.un (.cell 1) (.un (.agg) (.cons (.var 9) (.cons (.var 10) (.nil))))) (.un (.cell 1) (.un (.agg) (.cons (.var 28) (.cons (.var 29) (.nil)))))) (.kbool true)), true)] <|
            .ret (.bin (.and) (.bin (.and) (.bin (.eq) (.un (.cell 0) (.un (.agg) (.cons (.var 9) (.cons (.var 10) (.nil))))) (.un (.cell 0) (.un (.agg) (.cons (.var 28) (.cons (.var 29) (.nil)))))) (.bin (.and) (.bin (.eq) (.un (.cell 1) (.un (.agg) (.cons (.var 9) (.cons (.var 10) (.nil))))) (.un (.cell 1) (.un (.agg) (.cons (.var 28) (.cons (.var 29) (.nil)))))) (.kbool true))) (.var 45)))))))
def vc4 : VC :=
  .call 19 10 (.cons (.un (.agg) (.cons (.un (.cell 0) (.var 0)) (.cons (.kint .i64 (1)) (.cons (.un (.cell 2) (.var 0)) (.cons (.un (.cell 3) (.var 0)) (.cons (.un (.cell 4) (.var 0)) (.cons (.un (.cell 5) (.var 0)) (.cons (.un (.cell 6) (.var 0)) (.nil))))))))) (.nil)) [] <|
  .call 21 10 (.cons (.un (.agg) (.cons (.un (.cell 0) (.var 0)) (.cons (.kint .i64 (2)) (.cons (.un (.cell 2) (.var 0)) (.cons (.un (.cell 3) (.var 0)) (.cons (.un (.cell 4) (.var 0)) (.cons (.un (.cell 5) (.var 0)) (.cons (.un (.cell 6) (.var 0)) (.nil))))))))) (.nil)) [] <|
  .branch (.bin (.ne) (.var 19) (.var 21)) (
    .ret (.kbool false))
    (
    .loop 25 [.kbool true, .kint .i64 (0)] [.bool, .int .i64] (
      .branch (.bin (.lt) (.var 26) (.un (.len) (.un (.cell 4) (.var 0)))) (
        .obl [(.var 25, true)] (.bin (.and) (.bin (.le) (.kint .i64 (0)) (.var 26)) (.bin (.lt) (.var 26) (.un (.len) (.un (.cell 4) (.var 0))))) <|
        .again 0 [.bin (.and) (.var 25) (.bin (.eq) (.un (.cell 0) (.bin (.idx) (.un (.cell 4) (.var 0)) (.var 26))) (.kint .i64 (1))), .bin (.add .i64) (.var 26) (.kint .i64 (1))])
        (
        .call 33 10 (.cons (.un (.agg) (.cons (.un (.cell 0) (.var 0)) (.cons (.kint .i64 (3)) (.cons (.un (.cell 2) (.var 0)) (.cons (.un (.cell 3) (.var 0)) (.cons (.un (.cell 4) (.var 0)) (.cons (.un (.cell 5) (.var 0)) (.cons (.un (.cell 6) (.var 0)) (.nil))))))))) (.nil)) [] <|
        .call 36 10 (.cons (.un (.agg) (.cons (.un (.cell 0) (.var 0)) (.cons (.kint .i64 (1)) (.cons (.un (.cell 2) (.var 0)) (.cons (.un (.cell 3) (.var 0)) (.cons (.un (.cell 4) (.var 0)) (.cons (.un (.cell 5) (.var 0)) (.cons (.un (.cell 6) (.var 0)) (.nil))))))))) (.nil)) [] <|
        .call 43 9 (.nil) [(.bin (.beq) (.bin (.eq) (.var 33) (.kint .i64 (0))) (.bin (.and) (.bin (.eq) (.var 36) (.kint .i64 (0))) (.var 25)), true)] <|
        .ret (.bin (.and) (.bin (.beq) (.bin (.eq) (.var 33) (.kint .i64 (0))) (.bin (.and) (.bin (.eq) (.var 36) (.kint .i64 (0))) (.var 25))) (.var 43)))))
def vc5 : VC :=
  .call 9 8 (.cons (.un (.agg) (.cons (.un (.cell 0) (.var 0)) (.cons (.un (.cell 1) (.var 0)) (.nil)))) (.cons (.un (.agg) (.cons (.un (.cell 0) (.var 1)) (.cons (.un (.cell 1) (.var 1)) (.nil)))) (.nil))) [] <|
  .call 18 11 (.cons (.un (.agg) (.cons (.un (.cell 0) (.var 0)) (.cons (.un (.cell 1) (.var 0)) (.nil)))) (.cons (.un (.agg) (.cons (.un (.cell 0) (.var 1)) (.cons (.un (.cell 1) (.var 1)) (.nil)))) (.nil))) [] <|
  .call 37 12 (.cons (.un (.agg) (.cons (.un (.cell 0) (.var 0)) (.cons (.un (.cell 1) (.var 0)) (.nil)))) (.cons (.un (.agg) (.cons (.un (.cell 0) (.var 1)) (.cons (.un (.cell 1) (.var 1)) (.nil)))) (.cons (.un (.agg) (.cons (.un (.cell 0) (.var 2)) (.cons (.un (.cell 1) (.var 2)) (.nil)))) (.nil)))) [(.bin (.and) (.bin (.and) (.bin (.eq) (.un (.cell 0) (.un (.agg) (.cons (.un (.cell 0) (.un (.cell 0) (.var 9))) (.cons (.un (.cell 1) (.un (.cell 0) (.var 9))) (.nil))))) (.un (.cell 0) (.un (.agg) (.cons (.un (.cell 0) (.un (.cell 0) (.var 18))) (.cons (.un (.cell 1) (.un (.cell 0) (.var 18))) (.nil)))))) (.bin (.and) (.bin (.eq) (.un (.cell 1) (.un (.agg) (.cons (.un (.cell 0) (.un (.cell 0) (.var 9))) (.cons (.un (.cell 1) (.un (.cell 0) (.var 9))) (.nil))))) (.un (.cell 1) (.un (.agg) (.cons (.un (.cell 0) (.un (.cell 0) (.var 18))) (.cons (.un (.cell 1) (.un (.cell 0) (.var 18))) (.nil)))))) (.kbool true))) (.bin (.beq) (.un (.cell 1) (.var 9)) (.un (.cell 1) (.var 18))), true)] <|
  .call 41 13 (.cons (.un (.agg) (.cons (.un (.cell 0) (.var 0)) (.cons (.un (.cell 1) (.var 0)) (.nil)))) (.cons (.un (.agg) (.cons (.un (.cell 0) (.var 1)) (.cons (.un (.cell 1) (.var 1)) (.nil)))) (.cons (.un (.agg) (.cons (.un (.cell 0) (.var 2)) (.cons (.un (.cell 1) (.var 2)) (.nil)))) (.nil)))) [(.bin (.and) (.bin (.and) (.bin (.eq) (.un (.cell 0) (.un (.agg) (.cons (.un (.cell 0) (.un (.cell 0) (.var 9))) (.cons (.un (.cell 1) (.un (.cell 0) (.var 9))) (.nil))))) (.un (.cell 0) (.un (.agg) (.cons (.un (.cell 0) (.un (.cell 0) (.var 18))) (.cons (.un (.cell 1) (.un (.cell 0) (.var 18))) (.nil)))))) (.bin (.and) (.bin (.eq) (.un (.cell 1) (.un (.agg) (.cons (.un (.cell 0) (.un (.cell 0) (.var 9))) (.cons (.un (.cell 1) (.un (.cell 0) (.var 9))) (.nil))))) (.un (.cell 1) (.un (.agg) (.cons (.un (.cell 0) (.un (.cell 0) (.var 18))) (.cons (.un (.cell 1) (.un (.cell 0) (.var 18))) (.nil)))))) (.kbool true))) (.bin (.beq) (.un (.cell 1) (.var 9)) (.un (.cell 1) (.var 18))), true)] <|
  .call 45 9 (.nil) [(.bin (.and) (.bin (.and) (.bin (.and) (.bin (.eq) (.un (.cell 0) (.un (.agg) (.cons (.un (.cell 0) (.un (.cell 0) (.var 9))) (.cons (.un (.cell 1) (.un (.cell 0) (.var 9))) (.nil))))) (.un (.cell 0) (.un (.agg) (.cons (.un (.cell 0) (.un (.cell 0) (.var 18))) (.cons (.un (.cell 1) (.un (.cell 0) (.var 18))) (.nil)))))) (.bin (.and) (.bin (.eq) (.un (.cell 1) (.un (.agg) (.cons (.un (.cell 0) (.un (.cell 0) (.var 9))) (.cons (.un (.cell 1) (.un (.cell 0) (.var 9))) (.nil))))) (.un (.cell 1) (.un (.agg) (.cons (.un (.cell 0) (.un (.cell 0) (.var 18))) (.cons (.un (.cell 1) (.un (.cell 0) (.var 18))) (.nil)))))) (.kbool true))) (.bin (.beq) (.un (.cell 1) (.var 9)) (.un (.cell 1) (.var 18)))) (.bin (.beq) (.var 37) (.var 41)), true)] <|
  .ret (.bin (.and) (.bin (.and) (.bin (.and) (.bin (.and) (.bin (.eq) (.un (.cell 0) (.un (.agg) (.cons (.un (.cell 0) (.un (.cell 0) (.var 9))) (.cons (.un (.cell 1) (.un (.cell 0) (.var 9))) (.nil))))) (.un (.cell 0) (.un (.agg) (.cons (.un (.cell 0) (.un (.cell 0) (.var 18))) (.cons (.un (.cell 1) (.un (.cell 0) (.var 18))) (.nil)))))) (.bin (.and) (.bin (.eq) (.un (.cell 1) (.un (.agg) (.cons (.un (.cell 0) (.un (.cell 0) (.var 9))) (.cons (.un (.cell 1) (.un (.cell 0) (.var 9))) (.nil))))) (.un (.cell 1) (.un (.agg) (.cons (.un (.cell 0) (.un (.cell 0) (.var 18))) (.cons (.un (.cell 1) (.un (.cell 0) (.var 18))) (.nil)))))) (.kbool true))) (.bin (.beq) (.un (.cell 1) (.var 9)) (.un (.cell 1) (.var 18)))) (.bin (.beq) (.var 37) (.var 41))) (.var 45))
def vc6 : VC :=
  .call 23 8 (.cons (.un (.agg) (.cons (.un (.cell 0) (.var 0)) (.cons (.un (.cell 1) (.var 0)) (.nil)))) (.cons (.un (.agg) (.cons (.un (.cell 2) (.var 0)) (.cons (.un (.cell 3) (.var 0)) (.nil)))) (.nil))) [] <|
  .call 32 8 (.cons (.un (.agg) (.cons (.un (.cell 2) (.var 0)) (.cons (.un (.cell 3) (.var 0)) (.nil)))) (.cons (.un (.agg) (.cons (.un (.cell 0) (.var 0)) (.cons (.un (.cell 1) (.var 0)) (.nil)))) (.nil))) [] <|
  .branch (.bin (.or) (.un (.not) (.bin (.and) (.bin (.eq) (.un (.cell 0) (.un (.agg) (.cons (.un (.cell 0) (.un (.cell 0) (.var 23))) (.cons (.un (.cell 1) (.un (.cell 0) (.var 23))) (.nil))))) (.un (.cell 0) (.un (.agg) (.cons (.un (.cell 0) (.un (.cell 0) (.var 32))) (.cons (.un (.cell 1) (.un (.cell 0) (.var 32))) (.nil)))))) (.bin (.and) (.bin (.eq) (.un (.cell 1) (.un (.agg) (.cons (.un (.cell 0) (.un (.cell 0) (.var 23))) (.cons (.un (.cell 1) (.un (.cell 0) (.var 23))) (.nil))))) (.un (.cell 1) (.un (.agg) (.cons (.un (.cell 0) (.un (.cell 0) (.var 32))) (.cons (.un (.cell 1) (.un (.cell 0) (.var 32))) (.nil)))))) (.kbool true)))) (.un (.not) (.bin (.beq) (.un (.cell 1) (.var 23)) (.un (.cell 1) (.var 32))))) (
    .ret (.kbool false))
    (
    .call 49 8 (.cons (.un (.agg) (.cons (.un (.cell 0) (.un (.cell 0) (.var 23))) (.cons (.un (.cell 1) (.un (.cell 0) (.var 23))) (.nil)))) (.cons (.un (.agg) (.cons (.un (.cell 0) (.var 1)) (.cons (.un (.cell 1) (.var 1)) (.nil)))) (.nil))) [] <|
    .call 58 8 (.cons (.un (.agg) (.cons (.un (.cell 2) (.var 0)) (.cons (.un (.cell 3) (.var 0)) (.nil)))) (.cons (.un (.agg) (.cons (.un (.cell 0) (.var 1)) (.cons (.un (.cell 1) (.var 1)) (.nil)))) (.nil))) [] <|
    .call 67 8 (.cons (.un (.agg) (.cons (.un (.cell 0) (.var 0)) (.cons (.un (.cell 1) (.var 0)) (.nil)))) (.cons (.un (.agg) (.cons (.un (.cell 0) (.un (.cell 0) (.var 58))) (.cons (.un (.cell 1) (.un (.cell 0) (.var 58))) (.nil)))) (.nil))) [] <|
    .branch (.bin (.and) (.bin (.and) (.un (.cell 1) (.var 23)) (.un (.cell 1) (.var 58))) (.bin (.or) (.un (.not) (.bin (.and) (.bin (.eq) (.un (.cell 0) (.un (.agg) (.cons (.un (.cell 0) (.un (.cell 0) (.var 49))) (.cons (.un (.cell 1) (.un (.cell 0) (.var 49))) (.nil))))) (.un (.cell 0) (.un (.agg) (.cons (.un (.cell 0) (.un (.cell 0) (.var 67))) (.cons (.un (.cell 1) (.un (.cell 0) (.var 67))) (.nil)))))) (.bin (.and) (.bin (.eq) (.un (.cell 1) (.un (.agg) (.cons (.un (.cell 0) (.un (.cell 0) (.var 49))) (.cons (.un (.cell 1) (.un (.cell 0) (.var 49))) (.nil))))) (.un (.cell 1) (.un (.agg) (.cons (.un (.cell 0) (.un (.cell 0) (.var 67))) (.cons (.un (.cell 1) (.un (.cell 0) (.var 67))) (.nil)))))) (.kbool true)))) (.un (.not) (.bin (.beq) (.un (.cell 1) (.var 49)) (.un (.cell 1) (.var 67)))))) (
      .ret (.kbool false))
      (
      .call 93 12 (.cons (.un (.agg) (.cons (.un (.cell 0) (.un (.cell 0) (.var 23))) (.cons (.un (.cell 1) (.un (.cell 0) (.var 23))) (.nil)))) (.cons (.un (.agg) (.cons (.un (.cell 0) (.var 1)) (.cons (.un (.cell 1) (.var 1)) (.nil)))) (.cons (.un (.agg) (.cons (.un (.cell 2) (.var 1)) (.cons (.un (.cell 3) (.var 1)) (.nil)))) (.nil)))) [(.un (.cell 1) (.var 23), true)] <|
      .call 99 12 (.cons (.un (.agg) (.cons (.un (.cell 0) (.var 0)) (.cons (.un (.cell 1) (.var 0)) (.nil)))) (.cons (.un (.agg) (.cons (.un (.cell 0) (.var 1)) (.cons (.un (.cell 1) (.var 1)) (.nil)))) (.cons (.un (.agg) (.cons (.un (.cell 2) (.var 1)) (.cons (.un (.cell 3) (.var 1)) (.nil)))) (.nil)))) [(.bin (.and) (.un (.cell 1) (.var 23)) (.var 93), true)] <|
      .branch (.bin (.and) (.bin (.and) (.un (.cell 1) (.var 23)) (.var 93)) (.un (.not) (.var 99))) (
        .ret (.kbool false))
        (
        .call 102 9 (.nil) [] <|
        .ret (.var 102))))
def vc7 : VC :=
  .call 6 10 (.cons (.un (.agg) (.cons (.un (.cell 0) (.var 0)) (.cons (.un (.cell 1) (.var 0)) (.cons (.un (.cell 2) (.var 0)) (.cons (.un (.cell 3) (.var 0)) (.cons (.un (.cell 4) (.var 0)) (.cons (.un (.cell 5) (.var 0)) (.cons (.un (.cell 6) (.var 0)) (.nil))))))))) (.nil)) [] <|
  .call 8 14 (.cons (.un (.agg) (.cons (.un (.cell 0) (.var 0)) (.cons (.un (.cell 1) (.var 0)) (.cons (.un (.cell 2) (.var 0)) (.cons (.un (.cell 3) (.var 0)) (.cons (.un (.cell 4) (.var 0)) (.cons (.un (.cell 5) (.var 0)) (.cons (.un (.cell 6) (.var 0)) (.nil))))))))) (.nil)) [] <|
  .call 12 15 (.cons (.un (.agg) (.cons (.un (.cell 0) (.var 1)) (.cons (.un (.cell 1) (.var 1)) (.cons (.un (.cell 2) (.var 1)) (.cons (.un (.cell 3) (.var 1)) (.cons (.un (.cell 4) (.var 1)) (.cons (.un (.cell 5) (.var 1)) (.cons (.un (.cell 6) (.var 1)) (.cons (.un (.cell 7) (.var 1)) (.nil)))))))))) (.nil)) [(.bin (.eq) (.var 6) (.var 8), true)] <|
  .call 14 16 (.cons (.un (.agg) (.cons (.un (.cell 0) (.var 1)) (.cons (.un (.cell 1) (.var 1)) (.cons (.un (.cell 2) (.var 1)) (.cons (.un (.cell 3) (.var 1)) (.cons (.un (.cell 4) (.var 1)) (.cons (.un (.cell 5) (.var 1)) (.cons (.un (.cell 6) (.var 1)) (.cons (.un (.cell 7) (.var 1)) (.nil)))))))))) (.nil)) [(.bin (.eq) (.var 6) (.var 8), true)] <|
  .call 18 9 (.nil) [(.bin (.and) (.bin (.eq) (.var 6) (.var 8)) (.bin (.eq) (.var 12) (.var 14)), true)] <|
  .ret (.bin (.and) (.bin (.and) (.bin (.eq) (.var 6) (.var 8)) (.bin (.eq) (.var 12) (.var 14))) (.var 18))
def vc19 : VC :=
  .branch (.bin (.or) (.bin (.or) (.bin (.or) (.bin (.or) (.bin (.lt) (.var 0) (.kint .i64 (0))) (.bin (.gt) (.var 0) (.kint .i64 (1152921504606846976)))) (.bin (.lt) (.var 1) (.kint .i64 (0)))) (.bin (.gt) (.var 1) (.kint .i64 (1152921504606846976)))) (.bin (.gt) (.var 0) (.bin (.sub .i64) (.kint .i64 (1152921504606846976)) (.var 1)))) (
    .ret (.un (.tup) (.cons (.kint .i64 (0)) (.cons (.kbool false) (.nil)))))
    (
    .ret (.un (.tup) (.cons (.bin (.add .i64) (.var 0) (.var 1)) (.cons (.kbool true) (.nil)))))

end Go.Proofs.Ytpddkmdcmkoofaa
