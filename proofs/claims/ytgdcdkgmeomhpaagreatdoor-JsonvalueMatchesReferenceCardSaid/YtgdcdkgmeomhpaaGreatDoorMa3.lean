/- Parts of the proof, joined: The functions of the program, read (printed by wip/tools/seat.py): each is what the reading yields, by the kernel. The parser's small functions: what each does to the abstract store. JSON values: how they lie as abstract values; the parser's words. JSON strings: escape sequences. UTF-8: decoding a rune. JSON strings: escape sequences, the builder. Runes appended; the builder. JSON strings are parsed. The library's contracts that the kit proves once, laid for this program: the numbers, and what they rest on, each by the kernel. -/
import Derived.Test.YtgdcdkgmeomhpaaGreatDoorProg
import Derived.KernelRfl
import Derived.Lib.DecodeNEq
import Derived.Lib.RuneBytes
import Derived.Shelf.Strconv.ParseIntPublic10
import Derived.Shelf.Strings.SlTrimAscii
import Derived.Test.YtgdcdkgmeomhpaaGreatDoorMa1
import Derived.Test.YtgdcdkgmeomhpaaGreatDoorMa2
set_option linter.unusedVariables false
set_option linter.unusedSimpArgs false

namespace Go.Proofs.YtgdcdkgmeomhpaaGreatDoor
open Go Go.Vs
set_option maxRecDepth 100000

/-- isSpace -/
def vf_isSpace : VFunc :=
  { m := 17, code := (.seq (.reg [⟨(some 2), none, (.op (.mov (.c (.bool false))))⟩])
    (.seq (.reg [⟨(some 3), none, (.op (.mov (.t 0)))⟩, ⟨(some 4), none, (.op (.bin .eql (.t 3) (.c (.int .u8 32))))⟩, ⟨(some 5), none, (.op (.mov (.t 4)))⟩, ⟨(some 6), (some (5, false)), (.op (.mov (.t 0)))⟩, ⟨(some 7), (some (5, false)), (.op (.bin .eql (.t 6) (.c (.int .u8 9))))⟩, ⟨(some 8), none, (.op (.pick (.t 5) (.c (.bool true)) (.t 7)))⟩, ⟨(some 9), none, (.op (.mov (.t 8)))⟩, ⟨(some 10), (some (9, false)), (.op (.mov (.t 0)))⟩, ⟨(some 11), (some (9, false)), (.op (.bin .eql (.t 10) (.c (.int .u8 10))))⟩, ⟨(some 12), none, (.op (.pick (.t 9) (.c (.bool true)) (.t 11)))⟩, ⟨(some 13), none, (.op (.mov (.t 12)))⟩, ⟨(some 14), (some (13, false)), (.op (.mov (.t 0)))⟩, ⟨(some 15), (some (13, false)), (.op (.bin .eql (.t 14) (.c (.int .u8 13))))⟩, ⟨(some 16), none, (.op (.pick (.t 13) (.c (.bool true)) (.t 15)))⟩, ⟨(some 2), none, (.op (.mov (.t 16)))⟩])
    .ret)),
    res := [(.t 2)] }

theorem cf_isSpace : cfunc Go.Proofs.Tryz.prog 35 = some vf_isSpace := by kernel_rfl

/-- decode -/
def vf_decode : VFunc :=
  { m := 31, code := (.seq (.reg [⟨(some 4), none, (.op (.mov (.c (.int .i32 0))))⟩, ⟨(some 5), none, (.op (.mov (.c (.int .i64 0))))⟩])
    (.seq (.seq (.reg [⟨(some 8), none, (.op (.mov (.t 1)))⟩, ⟨(some 9), none, (.op (.bin .lss (.t 8) (.c (.int .i64 0))))⟩, ⟨(some 10), none, (.op (.mov (.t 9)))⟩, ⟨(some 11), (some (10, false)), (.op (.mov (.t 1)))⟩, ⟨(some 12), (some (10, false)), (.op (.mov (.t 0)))⟩, ⟨(some 13), (some (10, false)), (.op (.lenS (.t 12)))⟩, ⟨(some 14), (some (10, false)), (.op (.bin .geq (.t 11) (.t 13)))⟩, ⟨(some 15), none, (.op (.pick (.t 10) (.c (.bool true)) (.t 14)))⟩])
    (.cond (.t 15) (.seq (.reg [⟨(some 4), none, (.op (.mov (.c (.int .i32 0))))⟩, ⟨(some 5), none, (.op (.mov (.c (.int .i64 0))))⟩])
    .ret) .skip))
    (.seq (.reg [⟨(some 17), none, (.op (.mov (.t 0)))⟩, ⟨(some 18), none, (.op (.mov (.t 1)))⟩, ⟨(some 19), none, (.op (.slS (.t 17) (some (.t 18)) none))⟩, ⟨(some 20), none, (.call 71 [(.t 19)])⟩, ⟨(some 16), none, (.op (.mov (.t 20)))⟩, ⟨(some 21), none, (.op (.ext (.t 16) 0))⟩, ⟨(some 22), none, (.op (.ext (.t 16) 1))⟩, ⟨(some 6), none, (.op (.mov (.t 21)))⟩, ⟨(some 7), none, (.op (.mov (.t 22)))⟩])
    (.seq (.seq (.reg [⟨(some 23), none, (.op (.mov (.t 6)))⟩, ⟨(some 24), none, (.op (.bin .eql (.t 23) (.c (.int .i32 65533))))⟩, ⟨(some 25), none, (.op (.mov (.t 24)))⟩, ⟨(some 26), (some (25, true)), (.op (.mov (.t 7)))⟩, ⟨(some 27), (some (25, true)), (.op (.bin .eql (.t 26) (.c (.int .i64 1))))⟩, ⟨(some 28), none, (.op (.pick (.t 25) (.t 27) (.c (.bool false))))⟩])
    (.cond (.t 28) (.seq (.reg [⟨(some 4), none, (.op (.mov (.c (.int .i32 0))))⟩, ⟨(some 5), none, (.op (.mov (.c (.int .i64 0))))⟩])
    .ret) .skip))
    (.seq (.reg [⟨(some 29), none, (.op (.mov (.t 6)))⟩, ⟨(some 30), none, (.op (.mov (.t 7)))⟩, ⟨(some 4), none, (.op (.mov (.t 29)))⟩, ⟨(some 5), none, (.op (.mov (.t 30)))⟩])
    .ret))))),
    res := [(.t 4), (.t 5)] }

theorem cf_decode : cfunc Go.Proofs.Tryz.prog 57 = some vf_decode := by kernel_rfl

/-- spaces -/
def vf_spaces : VFunc :=
  { m := 31, code := (.block 0 (.loop (.seq (.seq (.draw [⟨⟨(some 2), none, (.op (.mov (.t 0)))⟩, none⟩, ⟨⟨(some 3), none, (.op (.nilck (.t 2)))⟩, none⟩, ⟨⟨(some 4), none, (.op (.fadr 1 (.t 3)))⟩, none⟩, ⟨⟨(some 5), none, (.op (.loadL (.t 4)))⟩, none⟩, ⟨⟨(some 6), none, (.op (.mov (.t 0)))⟩, none⟩, ⟨⟨(some 7), none, (.op (.nilck (.t 6)))⟩, none⟩, ⟨⟨(some 8), none, (.op (.fadr 0 (.t 7)))⟩, none⟩, ⟨⟨(some 9), none, (.op (.loadL (.t 8)))⟩, none⟩, ⟨⟨(some 10), none, (.op (.lenS (.t 9)))⟩, none⟩, ⟨⟨(some 11), none, (.op (.bin .lss (.t 5) (.t 10)))⟩, none⟩, ⟨⟨(some 12), none, (.op (.mov (.t 11)))⟩, none⟩, ⟨⟨(some 13), (some (12, true)), (.op (.mov (.t 0)))⟩, none⟩, ⟨⟨(some 14), (some (12, true)), (.op (.nilck (.t 13)))⟩, none⟩, ⟨⟨(some 15), (some (12, true)), (.op (.fadr 0 (.t 14)))⟩, none⟩, ⟨⟨(some 16), (some (12, true)), (.op (.loadL (.t 15)))⟩, none⟩, ⟨⟨(some 17), (some (12, true)), (.op (.mov (.t 0)))⟩, none⟩, ⟨⟨(some 18), (some (12, true)), (.op (.nilck (.t 17)))⟩, none⟩, ⟨⟨(some 19), (some (12, true)), (.op (.fadr 1 (.t 18)))⟩, none⟩, ⟨⟨(some 20), (some (12, true)), (.op (.loadL (.t 19)))⟩, none⟩, ⟨⟨(some 21), (some (12, true)), (.op (.idxS (.t 16) (.t 20)))⟩, none⟩, ⟨⟨(some 22), (some (12, true)), (.call 35 [(.t 21)])⟩, (some [])⟩, ⟨⟨(some 23), none, (.op (.pick (.t 12) (.t 22) (.c (.bool false))))⟩, none⟩])
    (.cond (.t 23) .skip (.exit 0)))
    (.block 1 (.reg [⟨(some 24), none, (.op (.mov (.t 0)))⟩, ⟨(some 25), none, (.op (.nilck (.t 24)))⟩, ⟨(some 26), none, (.op (.fadr 1 (.t 25)))⟩, ⟨(some 27), none, (.op (.loadL (.t 26)))⟩, ⟨(some 28), none, (.op (.bin .add (.t 27) (.c (.int .i64 1))))⟩, ⟨(some 29), none, (.op (.nilck (.t 24)))⟩, ⟨(some 30), none, (.op (.fadr 1 (.t 29)))⟩, ⟨none, none, (.op (.store 1 (.t 30) (.t 28)))⟩]))))),
    res := [] }

theorem cf_spaces : cfunc Go.Proofs.Tryz.prog 17 = some vf_spaces := by kernel_rfl

/-- peek -/
def vf_peek : VFunc :=
  { m := 24, code := (.seq (.reg [⟨(some 2), none, (.op (.mov (.c (.int .u8 0))))⟩])
    (.seq (.reg [⟨(some 3), none, (.op (.mov (.t 0)))⟩, ⟨(some 4), none, (.call 17 [(.t 3)])⟩])
    (.seq (.seq (.draw [⟨⟨(some 5), none, (.op (.mov (.t 0)))⟩, none⟩, ⟨⟨(some 6), none, (.op (.nilck (.t 5)))⟩, none⟩, ⟨⟨(some 7), none, (.op (.fadr 1 (.t 6)))⟩, none⟩, ⟨⟨(some 8), none, (.op (.loadL (.t 7)))⟩, none⟩, ⟨⟨(some 9), none, (.op (.mov (.t 0)))⟩, none⟩, ⟨⟨(some 10), none, (.op (.nilck (.t 9)))⟩, none⟩, ⟨⟨(some 11), none, (.op (.fadr 0 (.t 10)))⟩, none⟩, ⟨⟨(some 12), none, (.op (.loadL (.t 11)))⟩, none⟩, ⟨⟨(some 13), none, (.op (.lenS (.t 12)))⟩, none⟩, ⟨⟨(some 14), none, (.op (.bin .eql (.t 8) (.t 13)))⟩, none⟩])
    (.cond (.t 14) (.seq (.reg [⟨(some 2), none, (.op (.mov (.c (.int .u8 0))))⟩])
    .ret) .skip))
    (.seq (.draw [⟨⟨(some 15), none, (.op (.mov (.t 0)))⟩, none⟩, ⟨⟨(some 16), none, (.op (.nilck (.t 15)))⟩, none⟩, ⟨⟨(some 17), none, (.op (.fadr 0 (.t 16)))⟩, none⟩, ⟨⟨(some 18), none, (.op (.loadL (.t 17)))⟩, none⟩, ⟨⟨(some 19), none, (.op (.mov (.t 0)))⟩, none⟩, ⟨⟨(some 20), none, (.op (.nilck (.t 19)))⟩, none⟩, ⟨⟨(some 21), none, (.op (.fadr 1 (.t 20)))⟩, none⟩, ⟨⟨(some 22), none, (.op (.loadL (.t 21)))⟩, none⟩, ⟨⟨(some 23), none, (.op (.idxS (.t 18) (.t 22)))⟩, none⟩, ⟨⟨(some 2), none, (.op (.mov (.t 23)))⟩, none⟩])
    .ret)))),
    res := [(.t 2)] }

theorem cf_peek : cfunc Go.Proofs.Tryz.prog 25 = some vf_peek := by kernel_rfl

/-- wrong -/
def vf_wrong : VFunc :=
  { m := 24, code := (.seq (.seq (.draw [⟨⟨(some 2), none, (.op (.mov (.t 0)))⟩, none⟩, ⟨⟨(some 3), none, (.op (.nilck (.t 2)))⟩, none⟩, ⟨⟨(some 4), none, (.op (.fadr 1 (.t 3)))⟩, none⟩, ⟨⟨(some 5), none, (.op (.loadL (.t 4)))⟩, none⟩, ⟨⟨(some 6), none, (.op (.mov (.t 0)))⟩, none⟩, ⟨⟨(some 7), none, (.op (.nilck (.t 6)))⟩, none⟩, ⟨⟨(some 8), none, (.op (.fadr 0 (.t 7)))⟩, none⟩, ⟨⟨(some 9), none, (.op (.loadL (.t 8)))⟩, none⟩, ⟨⟨(some 10), none, (.op (.lenS (.t 9)))⟩, none⟩, ⟨⟨(some 11), none, (.op (.bin .eql (.t 5) (.t 10)))⟩, none⟩])
    (.cond (.t 11) (.reg [⟨(some 12), none, (.op (.mov (.t 0)))⟩, ⟨(some 13), none, (.op (.nilck (.t 12)))⟩, ⟨(some 14), none, (.op (.fadr 1 (.t 13)))⟩, ⟨(some 15), none, (.op (.loadL (.t 14)))⟩, ⟨(some 16), none, (.op (.build [(.int .i64 0), (.int .i64 0)] [((0, 1), (.t 15)), ((1, 1), (.c (.int .i64 8)))]))⟩, ⟨(some 17), none, (.op (.mkI 45 (.t 16)))⟩, ⟨none, none, (.panic (.t 17))⟩]) .skip))
    (.reg [⟨(some 18), none, (.op (.mov (.t 0)))⟩, ⟨(some 19), none, (.op (.nilck (.t 18)))⟩, ⟨(some 20), none, (.op (.fadr 1 (.t 19)))⟩, ⟨(some 21), none, (.op (.loadL (.t 20)))⟩, ⟨(some 22), none, (.op (.build [(.int .i64 0), (.int .i64 0)] [((0, 1), (.t 21)), ((1, 1), (.c (.int .i64 7)))]))⟩, ⟨(some 23), none, (.op (.mkI 45 (.t 22)))⟩, ⟨none, none, (.panic (.t 23))⟩])),
    res := [] }

theorem cf_wrong : cfunc Go.Proofs.Tryz.prog 34 = some vf_wrong := by kernel_rfl

/-- expect -/
def vf_expect : VFunc :=
  { m := 29, code := (.seq (.seq (.draw [⟨⟨(some 4), none, (.op (.mov (.t 0)))⟩, none⟩, ⟨⟨(some 6), none, (.op (.mov (.t 1)))⟩, none⟩, ⟨⟨(some 5), none, (.call 25 [(.t 4)])⟩, (some [⟨(some 6), none, (.op (.mov (.t 1)))⟩])⟩, ⟨⟨(some 7), none, (.op (.bin .neq (.t 5) (.t 6)))⟩, none⟩, ⟨⟨(some 8), none, (.op (.mov (.t 7)))⟩, none⟩, ⟨⟨(some 9), (some (8, false)), (.op (.mov (.t 0)))⟩, none⟩, ⟨⟨(some 10), (some (8, false)), (.op (.nilck (.t 9)))⟩, none⟩, ⟨⟨(some 11), (some (8, false)), (.op (.fadr 1 (.t 10)))⟩, none⟩, ⟨⟨(some 12), (some (8, false)), (.op (.loadL (.t 11)))⟩, none⟩, ⟨⟨(some 13), (some (8, false)), (.op (.mov (.t 0)))⟩, none⟩, ⟨⟨(some 14), (some (8, false)), (.op (.nilck (.t 13)))⟩, none⟩, ⟨⟨(some 15), (some (8, false)), (.op (.fadr 0 (.t 14)))⟩, none⟩, ⟨⟨(some 16), (some (8, false)), (.op (.loadL (.t 15)))⟩, none⟩, ⟨⟨(some 17), (some (8, false)), (.op (.lenS (.t 16)))⟩, none⟩, ⟨⟨(some 18), (some (8, false)), (.op (.bin .eql (.t 12) (.t 17)))⟩, none⟩, ⟨⟨(some 19), none, (.op (.pick (.t 8) (.c (.bool true)) (.t 18)))⟩, none⟩])
    (.cond (.t 19) (.reg [⟨(some 20), none, (.op (.mov (.t 0)))⟩, ⟨(some 21), none, (.call 34 [(.t 20)])⟩]) .skip))
    (.reg [⟨(some 22), none, (.op (.mov (.t 0)))⟩, ⟨(some 23), none, (.op (.nilck (.t 22)))⟩, ⟨(some 24), none, (.op (.fadr 1 (.t 23)))⟩, ⟨(some 25), none, (.op (.loadL (.t 24)))⟩, ⟨(some 26), none, (.op (.bin .add (.t 25) (.c (.int .i64 1))))⟩, ⟨(some 27), none, (.op (.nilck (.t 22)))⟩, ⟨(some 28), none, (.op (.fadr 1 (.t 27)))⟩, ⟨none, none, (.op (.store 1 (.t 28) (.t 26)))⟩])),
    res := [] }

theorem cf_expect : cfunc Go.Proofs.Tryz.prog 49 = some vf_expect := by kernel_rfl

/-- pstr -/
def vf_pstr : VFunc :=
  { m := 30, code := (.seq (.reg [⟨(some 2), none, (.op (.mov (.c (.str []))))⟩])
    (.seq (.draw [⟨⟨(some 7), none, (.op (.mov (.t 0)))⟩, none⟩, ⟨⟨(some 8), none, (.op (.nilck (.t 7)))⟩, none⟩, ⟨⟨(some 9), none, (.op (.fadr 0 (.t 8)))⟩, none⟩, ⟨⟨(some 10), none, (.op (.loadL (.t 9)))⟩, none⟩, ⟨⟨(some 11), none, (.op (.mov (.t 0)))⟩, none⟩, ⟨⟨(some 12), none, (.op (.nilck (.t 11)))⟩, none⟩, ⟨⟨(some 13), none, (.op (.fadr 1 (.t 12)))⟩, none⟩, ⟨⟨(some 14), none, (.op (.loadL (.t 13)))⟩, none⟩, ⟨⟨(some 15), none, (.call 45 [(.t 10), (.t 14)])⟩, (some [])⟩, ⟨⟨(some 6), none, (.op (.mov (.t 15)))⟩, none⟩, ⟨⟨(some 16), none, (.op (.ext (.t 6) 0))⟩, none⟩, ⟨⟨(some 17), none, (.op (.ext (.t 6) 1))⟩, none⟩, ⟨⟨(some 18), none, (.op (.ext (.t 6) 2))⟩, none⟩, ⟨⟨(some 3), none, (.op (.mov (.t 16)))⟩, none⟩, ⟨⟨(some 4), none, (.op (.mov (.t 17)))⟩, none⟩, ⟨⟨(some 5), none, (.op (.mov (.t 18)))⟩, none⟩])
    (.seq (.seq (.reg [⟨(some 19), none, (.op (.mov (.t 5)))⟩, ⟨(some 20), none, (.op (.bin .neq (.t 19) (.c (.int .i64 0))))⟩])
    (.cond (.t 20) (.reg [⟨(some 21), none, (.op (.mov (.t 4)))⟩, ⟨(some 22), none, (.op (.mov (.t 5)))⟩, ⟨(some 23), none, (.op (.build [(.int .i64 0), (.int .i64 0)] [((0, 1), (.t 21)), ((1, 1), (.t 22))]))⟩, ⟨(some 24), none, (.op (.mkI 45 (.t 23)))⟩, ⟨none, none, (.panic (.t 24))⟩]) .skip))
    (.seq (.reg [⟨(some 25), none, (.op (.mov (.t 0)))⟩, ⟨(some 26), none, (.op (.mov (.t 4)))⟩, ⟨(some 27), none, (.op (.nilck (.t 25)))⟩, ⟨(some 28), none, (.op (.fadr 1 (.t 27)))⟩, ⟨none, none, (.op (.store 1 (.t 28) (.t 26)))⟩])
    (.seq (.reg [⟨(some 29), none, (.op (.mov (.t 3)))⟩, ⟨(some 2), none, (.op (.mov (.t 29)))⟩])
    .ret))))),
    res := [(.t 2)] }

theorem cf_pstr : cfunc Go.Proofs.Tryz.prog 28 = some vf_pstr := by kernel_rfl

/-- pnumber -/
def vf_pnumber : VFunc :=
  { m := 66, code := (.seq (.reg [⟨(some 2), none, (.op (.mov (.c (.int .i64 0))))⟩])
    (.seq (.draw [⟨⟨(some 8), none, (.op (.mov (.t 0)))⟩, none⟩, ⟨⟨(some 9), none, (.op (.nilck (.t 8)))⟩, none⟩, ⟨⟨(some 10), none, (.op (.fadr 0 (.t 9)))⟩, none⟩, ⟨⟨(some 11), none, (.op (.loadL (.t 10)))⟩, none⟩, ⟨⟨(some 12), none, (.op (.mov (.t 0)))⟩, none⟩, ⟨⟨(some 13), none, (.op (.nilck (.t 12)))⟩, none⟩, ⟨⟨(some 14), none, (.op (.fadr 1 (.t 13)))⟩, none⟩, ⟨⟨(some 15), none, (.op (.loadL (.t 14)))⟩, none⟩, ⟨⟨(some 16), none, (.op (.slS (.t 11) (some (.t 15)) none))⟩, none⟩, ⟨⟨(some 3), none, (.op (.mov (.t 16)))⟩, none⟩])
    (.seq (.reg [⟨(some 17), none, (.op (.mov (.t 3)))⟩, ⟨(some 18), none, (.op (.lenS (.t 17)))⟩, ⟨(some 19), none, (.op (.mov (.t 3)))⟩, ⟨(some 20), none, (.call 46 [(.t 19), (.c (.str [48, 49, 50, 51, 52, 53, 54, 55, 56, 57, 43, 45, 46, 101, 69]))])⟩, ⟨(some 21), none, (.op (.lenS (.t 20)))⟩, ⟨(some 22), none, (.op (.bin .sub (.t 18) (.t 21)))⟩, ⟨(some 4), none, (.op (.mov (.t 22)))⟩])
    (.seq (.reg [⟨(some 23), none, (.op (.mov (.t 3)))⟩, ⟨(some 24), none, (.op (.mov (.t 4)))⟩, ⟨(some 25), none, (.op (.slS (.t 23) none (some (.t 24))))⟩, ⟨(some 26), none, (.call 47 [(.t 25), (.c (.str [45]))])⟩, ⟨(some 5), none, (.op (.mov (.t 26)))⟩])
    (.seq (.reg [⟨(some 28), none, (.op (.mov (.t 3)))⟩, ⟨(some 29), none, (.op (.mov (.t 4)))⟩, ⟨(some 30), none, (.op (.slS (.t 28) none (some (.t 29))))⟩, ⟨(some 31), none, (.call 48 [(.t 30), (.c (.int .i64 10)), (.c (.int .i64 64))])⟩, ⟨(some 27), none, (.op (.mov (.t 31)))⟩, ⟨(some 32), none, (.op (.ext (.t 27) 0))⟩, ⟨(some 33), none, (.op (.ext (.t 27) 1))⟩, ⟨(some 6), none, (.op (.mov (.t 32)))⟩, ⟨(some 7), none, (.op (.mov (.t 33)))⟩])
    (.seq (.seq (.reg [⟨(some 34), none, (.op (.mov (.t 7)))⟩, ⟨(some 35), none, (.op (.eqN .i true (.t 34) (.c .nilI)))⟩, ⟨(some 36), none, (.op (.mov (.t 35)))⟩, ⟨(some 37), (some (36, false)), (.op (.mov (.t 3)))⟩, ⟨(some 38), (some (36, false)), (.op (.idxS (.t 37) (.c (.int .i64 0))))⟩, ⟨(some 39), (some (36, false)), (.op (.bin .eql (.t 38) (.c (.int .u8 43))))⟩, ⟨(some 40), none, (.op (.pick (.t 36) (.c (.bool true)) (.t 39)))⟩, ⟨(some 41), none, (.op (.mov (.t 40)))⟩, ⟨(some 42), (some (41, false)), (.op (.mov (.t 5)))⟩, ⟨(some 43), (some (41, false)), (.op (.idxS (.t 42) (.c (.int .i64 0))))⟩, ⟨(some 44), (some (41, false)), (.op (.bin .eql (.t 43) (.c (.int .u8 48))))⟩, ⟨(some 45), (some (41, false)), (.op (.mov (.t 44)))⟩, ⟨(some 46), (some (45, true)), (.op (.mov (.t 5)))⟩, ⟨(some 47), (some (45, true)), (.op (.lenS (.t 46)))⟩, ⟨(some 48), (some (45, true)), (.op (.bin .gtr (.t 47) (.c (.int .i64 1))))⟩, ⟨(some 49), (some (41, false)), (.op (.pick (.t 45) (.t 48) (.c (.bool false))))⟩, ⟨(some 50), none, (.op (.pick (.t 41) (.c (.bool true)) (.t 49)))⟩])
    (.cond (.t 50) (.reg [⟨(some 51), none, (.op (.mov (.t 0)))⟩, ⟨(some 52), none, (.op (.nilck (.t 51)))⟩, ⟨(some 53), none, (.op (.fadr 1 (.t 52)))⟩, ⟨(some 54), none, (.op (.loadL (.t 53)))⟩, ⟨(some 55), none, (.op (.build [(.int .i64 0), (.int .i64 0)] [((0, 1), (.t 54)), ((1, 1), (.c (.int .i64 15)))]))⟩, ⟨(some 56), none, (.op (.mkI 45 (.t 55)))⟩, ⟨none, none, (.panic (.t 56))⟩]) .skip))
    (.seq (.reg [⟨(some 57), none, (.op (.mov (.t 0)))⟩, ⟨(some 58), none, (.op (.nilck (.t 57)))⟩, ⟨(some 59), none, (.op (.fadr 1 (.t 58)))⟩, ⟨(some 60), none, (.op (.loadL (.t 59)))⟩, ⟨(some 61), none, (.op (.mov (.t 4)))⟩, ⟨(some 62), none, (.op (.bin .add (.t 60) (.t 61)))⟩, ⟨(some 63), none, (.op (.nilck (.t 57)))⟩, ⟨(some 64), none, (.op (.fadr 1 (.t 63)))⟩, ⟨none, none, (.op (.store 1 (.t 64) (.t 62)))⟩])
    (.seq (.reg [⟨(some 65), none, (.op (.mov (.t 6)))⟩, ⟨(some 2), none, (.op (.mov (.t 65)))⟩])
    .ret)))))))),
    res := [(.t 2)] }

theorem cf_pnumber : cfunc Go.Proofs.Tryz.prog 29 = some vf_pnumber := by kernel_rfl

/-- pword -/
def vf_pword : VFunc :=
  { m := 35, code := (.seq (.reg [⟨(some 5), none, (.op (.box 26 (.t 2)))⟩, ⟨(some 6), none, (.op (.alloc 26 [(.int .i64 0), (.bool false), (.int .i64 0), (.str []), (.slc false [] .no), (.slc false [] .no), (.int .i64 0)]))⟩])
    (.seq (.seq (.draw [⟨⟨(some 7), none, (.op (.mov (.t 0)))⟩, none⟩, ⟨⟨(some 8), none, (.op (.nilck (.t 7)))⟩, none⟩, ⟨⟨(some 9), none, (.op (.fadr 0 (.t 8)))⟩, none⟩, ⟨⟨(some 10), none, (.op (.loadL (.t 9)))⟩, none⟩, ⟨⟨(some 11), none, (.op (.mov (.t 0)))⟩, none⟩, ⟨⟨(some 12), none, (.op (.nilck (.t 11)))⟩, none⟩, ⟨⟨(some 13), none, (.op (.fadr 1 (.t 12)))⟩, none⟩, ⟨⟨(some 14), none, (.op (.loadL (.t 13)))⟩, none⟩, ⟨⟨(some 15), none, (.op (.slS (.t 10) (some (.t 14)) none))⟩, none⟩, ⟨⟨(some 16), none, (.op (.mov (.t 1)))⟩, none⟩, ⟨⟨(some 17), none, (.call 9 [(.t 15), (.t 16)])⟩, (some [])⟩, ⟨⟨(some 18), none, (.op (.un .not (.t 17)))⟩, none⟩])
    (.cond (.t 18) (.reg [⟨(some 19), none, (.op (.mov (.t 0)))⟩, ⟨(some 20), none, (.op (.nilck (.t 19)))⟩, ⟨(some 21), none, (.op (.fadr 1 (.t 20)))⟩, ⟨(some 22), none, (.op (.loadL (.t 21)))⟩, ⟨(some 23), none, (.op (.build [(.int .i64 0), (.int .i64 0)] [((0, 1), (.t 22)), ((1, 1), (.c (.int .i64 7)))]))⟩, ⟨(some 24), none, (.op (.mkI 45 (.t 23)))⟩, ⟨none, none, (.panic (.t 24))⟩]) .skip))
    (.seq (.reg [⟨(some 25), none, (.op (.mov (.t 0)))⟩, ⟨(some 26), none, (.op (.nilck (.t 25)))⟩, ⟨(some 27), none, (.op (.fadr 1 (.t 26)))⟩, ⟨(some 28), none, (.op (.loadL (.t 27)))⟩, ⟨(some 29), none, (.op (.mov (.t 1)))⟩, ⟨(some 30), none, (.op (.lenS (.t 29)))⟩, ⟨(some 31), none, (.op (.bin .add (.t 28) (.t 30)))⟩, ⟨(some 32), none, (.op (.nilck (.t 25)))⟩, ⟨(some 33), none, (.op (.fadr 1 (.t 32)))⟩, ⟨none, none, (.op (.store 1 (.t 33) (.t 31)))⟩])
    (.seq (.reg [⟨(some 34), none, (.op (.loadA 7 (.t 5)))⟩, ⟨none, none, (.op (.store 7 (.t 6) (.t 34)))⟩])
    .ret)))),
    res := [(.a 7 6)] }

theorem cf_pword : cfunc Go.Proofs.Tryz.prog 27 = some vf_pword := by kernel_rfl

/-- elements -/
def vf_elements : VFunc :=
  { m := 60, code := (.seq (.reg [⟨(some 6), none, (.op (.mov (.t 0)))⟩, ⟨(some 7), none, (.op (.nilck (.t 6)))⟩, ⟨(some 8), none, (.op (.fadr 2 (.t 7)))⟩, ⟨(some 9), none, (.op (.loadL (.t 8)))⟩, ⟨(some 10), none, (.op (.bin .add (.t 9) (.c (.int .i64 1))))⟩, ⟨(some 11), none, (.op (.nilck (.t 6)))⟩, ⟨(some 12), none, (.op (.fadr 2 (.t 11)))⟩, ⟨none, none, (.op (.store 1 (.t 12) (.t 10)))⟩])
    (.seq (.reg [⟨(some 13), none, (.op (.mov (.t 0)))⟩, ⟨(some 14), none, (.op (.nilck (.t 13)))⟩, ⟨(some 15), none, (.op (.fadr 1 (.t 14)))⟩, ⟨(some 16), none, (.op (.loadL (.t 15)))⟩, ⟨(some 17), none, (.op (.bin .add (.t 16) (.c (.int .i64 1))))⟩, ⟨(some 18), none, (.op (.nilck (.t 13)))⟩, ⟨(some 19), none, (.op (.fadr 1 (.t 18)))⟩, ⟨none, none, (.op (.store 1 (.t 19) (.t 17)))⟩])
    (.seq (.seq (.reg [⟨(some 20), none, (.op (.mov (.t 0)))⟩, ⟨(some 21), none, (.call 25 [(.t 20)])⟩, ⟨(some 22), none, (.op (.mov (.t 1)))⟩, ⟨(some 23), none, (.op (.bin .eql (.t 21) (.t 22)))⟩])
    (.cond (.t 23) (.seq (.reg [⟨(some 24), none, (.op (.mov (.t 0)))⟩, ⟨(some 25), none, (.op (.nilck (.t 24)))⟩, ⟨(some 26), none, (.op (.fadr 1 (.t 25)))⟩, ⟨(some 27), none, (.op (.loadL (.t 26)))⟩, ⟨(some 28), none, (.op (.bin .add (.t 27) (.c (.int .i64 1))))⟩, ⟨(some 29), none, (.op (.nilck (.t 24)))⟩, ⟨(some 30), none, (.op (.fadr 1 (.t 29)))⟩, ⟨none, none, (.op (.store 1 (.t 30) (.t 28)))⟩])
    (.seq (.reg [⟨(some 31), none, (.op (.mov (.t 0)))⟩, ⟨(some 32), none, (.op (.nilck (.t 31)))⟩, ⟨(some 33), none, (.op (.fadr 2 (.t 32)))⟩, ⟨(some 34), none, (.op (.loadL (.t 33)))⟩, ⟨(some 35), none, (.op (.bin .sub (.t 34) (.c (.int .i64 1))))⟩, ⟨(some 36), none, (.op (.nilck (.t 31)))⟩, ⟨(some 37), none, (.op (.fadr 2 (.t 36)))⟩, ⟨none, none, (.op (.store 1 (.t 37) (.t 35)))⟩])
    .ret)) .skip))
    (.seq (.block 0 (.loop (.block 1 (.seq (.reg [⟨(some 38), none, (.op (.mov (.t 2)))⟩, ⟨(some 39), none, (.callV (.t 38) [])⟩])
    (.seq (.seq (.reg [⟨(some 40), none, (.op (.mov (.t 0)))⟩, ⟨(some 41), none, (.call 25 [(.t 40)])⟩, ⟨(some 42), none, (.op (.mov (.t 1)))⟩, ⟨(some 43), none, (.op (.bin .eql (.t 41) (.t 42)))⟩])
    (.cond (.t 43) (.exit 0) .skip))
    (.reg [⟨(some 44), none, (.op (.mov (.t 0)))⟩, ⟨(some 45), none, (.call 49 [(.t 44), (.c (.int .u8 44))])⟩]))))))
    (.seq (.reg [⟨(some 46), none, (.op (.mov (.t 0)))⟩, ⟨(some 47), none, (.op (.nilck (.t 46)))⟩, ⟨(some 48), none, (.op (.fadr 1 (.t 47)))⟩, ⟨(some 49), none, (.op (.loadL (.t 48)))⟩, ⟨(some 50), none, (.op (.bin .add (.t 49) (.c (.int .i64 1))))⟩, ⟨(some 51), none, (.op (.nilck (.t 46)))⟩, ⟨(some 52), none, (.op (.fadr 1 (.t 51)))⟩, ⟨none, none, (.op (.store 1 (.t 52) (.t 50)))⟩])
    (.reg [⟨(some 53), none, (.op (.mov (.t 0)))⟩, ⟨(some 54), none, (.op (.nilck (.t 53)))⟩, ⟨(some 55), none, (.op (.fadr 2 (.t 54)))⟩, ⟨(some 56), none, (.op (.loadL (.t 55)))⟩, ⟨(some 57), none, (.op (.bin .sub (.t 56) (.c (.int .i64 1))))⟩, ⟨(some 58), none, (.op (.nilck (.t 53)))⟩, ⟨(some 59), none, (.op (.fadr 2 (.t 58)))⟩, ⟨none, none, (.op (.store 1 (.t 59) (.t 57)))⟩])))))),
    res := [] }

theorem cf_elements : cfunc Go.Proofs.Tryz.prog 30 = some vf_elements := by kernel_rfl

/-- pmember -/
def vf_pmember : VFunc :=
  { m := 32, code := (.seq (.reg [⟨(some 4), none, (.op (.alloc 41 [(.str []), (.int .i64 0), (.bool false), (.int .i64 0), (.str []), (.slc false [] .no), (.slc false [] .no), (.int .i64 0), (.int .i64 0)]))⟩])
    (.seq (.seq (.reg [⟨(some 6), none, (.op (.mov (.t 0)))⟩, ⟨(some 7), none, (.call 25 [(.t 6)])⟩, ⟨(some 8), none, (.op (.bin .neq (.t 7) (.c (.int .u8 34))))⟩])
    (.cond (.t 8) (.reg [⟨(some 9), none, (.op (.mov (.t 0)))⟩, ⟨(some 10), none, (.call 34 [(.t 9)])⟩]) .skip))
    (.seq (.reg [⟨(some 11), none, (.op (.mov (.t 0)))⟩, ⟨(some 12), none, (.op (.nilck (.t 11)))⟩, ⟨(some 13), none, (.op (.fadr 1 (.t 12)))⟩, ⟨(some 14), none, (.op (.loadL (.t 13)))⟩, ⟨(some 15), none, (.op (.build [(.str []), (.int .i64 0), (.bool false), (.int .i64 0), (.str []), (.slc false [] .no), (.slc false [] .no), (.int .i64 0), (.int .i64 0)] [((8, 1), (.t 14))]))⟩, ⟨(some 5), none, (.op (.alloc 41 [(.str []), (.int .i64 0), (.bool false), (.int .i64 0), (.str []), (.slc false [] .no), (.slc false [] .no), (.int .i64 0), (.int .i64 0)]))⟩, ⟨none, none, (.op (.store 9 (.t 5) (.t 15)))⟩])
    (.seq (.reg [⟨(some 16), none, (.op (.mov (.t 0)))⟩, ⟨(some 17), none, (.call 28 [(.t 16)])⟩, ⟨(some 18), none, (.op (.fadr 0 (.t 5)))⟩, ⟨none, none, (.op (.store 1 (.t 18) (.t 17)))⟩])
    (.seq (.seq (.reg [⟨(some 19), none, (.op (.mov (.t 1)))⟩, ⟨(some 20), none, (.op (.mkF (.func 51) [] [(.t 5)]))⟩, ⟨(some 21), none, (.call 50 [(.t 19), (.t 20)])⟩])
    (.cond (.t 21) (.reg [⟨(some 22), none, (.op (.fadr 8 (.t 5)))⟩, ⟨(some 23), none, (.op (.loadL (.t 22)))⟩, ⟨(some 24), none, (.op (.build [(.int .i64 0), (.int .i64 0)] [((0, 1), (.t 23)), ((1, 1), (.c (.int .i64 10)))]))⟩, ⟨(some 25), none, (.op (.mkI 45 (.t 24)))⟩, ⟨none, none, (.panic (.t 25))⟩]) .skip))
    (.seq (.reg [⟨(some 26), none, (.op (.mov (.t 0)))⟩, ⟨(some 27), none, (.call 49 [(.t 26), (.c (.int .u8 58))])⟩])
    (.seq (.reg [⟨(some 28), none, (.op (.mov (.t 0)))⟩, ⟨(some 29), none, (.call 16 [(.t 28)])⟩, ⟨(some 30), none, (.op (.fadr 1 (.t 5)))⟩, ⟨none, none, (.op (.store 7 (.t 30) (.t 29)))⟩])
    (.seq (.reg [⟨(some 31), none, (.op (.loadA 9 (.t 5)))⟩, ⟨none, none, (.op (.store 9 (.t 4) (.t 31)))⟩])
    .ret)))))))),
    res := [(.a 9 4)] }

theorem cf_pmember : cfunc Go.Proofs.Tryz.prog 33 = some vf_pmember := by kernel_rfl

/-- member1 -/
def vf_member1 : VFunc :=
  { m := 9, code := (.seq (.reg [⟨(some 2), none, (.op (.box 41 (.t 0)))⟩, ⟨(some 3), none, (.op (.mov (.c (.bool false))))⟩])
    (.seq (.reg [⟨(some 4), none, (.op (.fadr 0 (.t 2)))⟩, ⟨(some 5), none, (.op (.loadL (.t 4)))⟩, ⟨(some 6), none, (.op (.fadr 0 (.t 1)))⟩, ⟨(some 7), none, (.op (.loadL (.t 6)))⟩, ⟨(some 8), none, (.op (.bin .eql (.t 5) (.t 7)))⟩, ⟨(some 3), none, (.op (.mov (.t 8)))⟩])
    .ret)),
    res := [(.t 3)] }

theorem cf_member1 : cfunc Go.Proofs.Tryz.prog 51 = some vf_member1 := by kernel_rfl

/-- pvalue -/
def vf_pvalue : VFunc :=
  { m := 85, code := (.seq (.reg [⟨(some 1), none, (.op (.box 47 (.t 0)))⟩, ⟨(some 2), none, (.op (.alloc 26 [(.int .i64 0), (.bool false), (.int .i64 0), (.str []), (.slc false [] .no), (.slc false [] .no), (.int .i64 0)]))⟩])
    (.seq (.reg [⟨(some 5), none, (.op (.loadL (.t 1)))⟩, ⟨(some 6), none, (.call 25 [(.t 5)])⟩, ⟨(some 3), none, (.op (.mov (.t 6)))⟩])
    (.seq (.reg [⟨(some 7), none, (.op (.loadL (.t 1)))⟩, ⟨(some 8), none, (.op (.nilck (.t 7)))⟩, ⟨(some 9), none, (.op (.fadr 1 (.t 8)))⟩, ⟨(some 10), none, (.op (.loadL (.t 9)))⟩, ⟨(some 11), none, (.op (.build [(.int .i64 0), (.bool false), (.int .i64 0), (.str []), (.slc false [] .no), (.slc false [] .no), (.int .i64 0)] [((6, 1), (.t 10))]))⟩, ⟨(some 4), none, (.op (.alloc 26 [(.int .i64 0), (.bool false), (.int .i64 0), (.str []), (.slc false [] .no), (.slc false [] .no), (.int .i64 0)]))⟩, ⟨none, none, (.op (.store 7 (.t 4) (.t 11)))⟩])
    (.seq (.seq (.reg [⟨(some 12), none, (.op (.loadL (.t 1)))⟩, ⟨(some 13), none, (.op (.nilck (.t 12)))⟩, ⟨(some 14), none, (.op (.fadr 2 (.t 13)))⟩, ⟨(some 15), none, (.op (.loadL (.t 14)))⟩, ⟨(some 16), none, (.op (.bin .geq (.t 15) (.c (.int .i64 100))))⟩, ⟨(some 17), none, (.op (.mov (.t 16)))⟩, ⟨(some 18), (some (17, true)), (.op (.mov (.t 3)))⟩, ⟨(some 19), (some (17, true)), (.call 26 [(.t 18)])⟩, ⟨(some 20), none, (.op (.pick (.t 17) (.t 19) (.c (.bool false))))⟩])
    (.cond (.t 20) (.reg [⟨(some 21), none, (.op (.loadL (.t 1)))⟩, ⟨(some 22), none, (.op (.nilck (.t 21)))⟩, ⟨(some 23), none, (.op (.fadr 1 (.t 22)))⟩, ⟨(some 24), none, (.op (.loadL (.t 23)))⟩, ⟨(some 25), none, (.op (.build [(.int .i64 0), (.int .i64 0)] [((0, 1), (.t 24)), ((1, 1), (.c (.int .i64 9)))]))⟩, ⟨(some 26), none, (.op (.mkI 45 (.t 25)))⟩, ⟨none, none, (.panic (.t 26))⟩]) .skip))
    (.seq (.block 0 (.seq (.reg [⟨(some 30), none, (.op (.mov (.t 3)))⟩, ⟨(some 31), none, (.op (.bin .eql (.t 30) (.c (.int .u8 110))))⟩, ⟨(some 29), none, (.op (.mov (.t 31)))⟩])
    (.cond (.t 29) (.seq (.reg [⟨(some 32), none, (.op (.loadL (.t 1)))⟩, ⟨(some 33), none, (.op (.loadA 7 (.t 4)))⟩, ⟨(some 34), none, (.call 27 [(.t 32), (.c (.str [110, 117, 108, 108])), (.t 33)])⟩, ⟨none, none, (.op (.store 7 (.t 2) (.t 34)))⟩])
    .ret) (.seq (.reg [⟨(some 36), none, (.op (.mov (.t 3)))⟩, ⟨(some 37), none, (.op (.bin .eql (.t 36) (.c (.int .u8 116))))⟩, ⟨(some 35), none, (.op (.mov (.t 37)))⟩])
    (.cond (.t 35) (.seq (.reg [⟨(some 38), none, (.op (.fadr 0 (.t 4)))⟩, ⟨none, none, (.op (.store 1 (.t 38) (.c (.int .i64 1))))⟩, ⟨(some 39), none, (.op (.fadr 1 (.t 4)))⟩, ⟨none, none, (.op (.store 1 (.t 39) (.c (.bool true))))⟩])
    (.seq (.reg [⟨(some 40), none, (.op (.loadL (.t 1)))⟩, ⟨(some 41), none, (.op (.loadA 7 (.t 4)))⟩, ⟨(some 42), none, (.call 27 [(.t 40), (.c (.str [116, 114, 117, 101])), (.t 41)])⟩, ⟨none, none, (.op (.store 7 (.t 2) (.t 42)))⟩])
    .ret)) (.seq (.reg [⟨(some 44), none, (.op (.mov (.t 3)))⟩, ⟨(some 45), none, (.op (.bin .eql (.t 44) (.c (.int .u8 102))))⟩, ⟨(some 43), none, (.op (.mov (.t 45)))⟩])
    (.cond (.t 43) (.seq (.reg [⟨(some 46), none, (.op (.fadr 0 (.t 4)))⟩, ⟨none, none, (.op (.store 1 (.t 46) (.c (.int .i64 1))))⟩])
    (.seq (.reg [⟨(some 47), none, (.op (.loadL (.t 1)))⟩, ⟨(some 48), none, (.op (.loadA 7 (.t 4)))⟩, ⟨(some 49), none, (.call 27 [(.t 47), (.c (.str [102, 97, 108, 115, 101])), (.t 48)])⟩, ⟨none, none, (.op (.store 7 (.t 2) (.t 49)))⟩])
    .ret)) (.seq (.reg [⟨(some 51), none, (.op (.mov (.t 3)))⟩, ⟨(some 52), none, (.op (.bin .eql (.t 51) (.c (.int .u8 34))))⟩, ⟨(some 50), none, (.op (.mov (.t 52)))⟩])
    (.cond (.t 50) (.reg [⟨(some 53), none, (.op (.loadL (.t 1)))⟩, ⟨(some 54), none, (.call 28 [(.t 53)])⟩, ⟨(some 55), none, (.op (.fadr 0 (.t 4)))⟩, ⟨none, none, (.op (.store 1 (.t 55) (.c (.int .i64 3))))⟩, ⟨(some 56), none, (.op (.fadr 3 (.t 4)))⟩, ⟨none, none, (.op (.store 1 (.t 56) (.t 54)))⟩]) (.seq (.seq (.reg [⟨(some 58), none, (.op (.mov (.t 3)))⟩, ⟨(some 59), none, (.op (.bin .eql (.t 58) (.c (.int .u8 45))))⟩, ⟨(some 57), none, (.op (.mov (.t 59)))⟩])
    (.cond (.t 57) .skip (.reg [⟨(some 60), none, (.op (.mov (.t 3)))⟩, ⟨(some 61), none, (.op (.bin .geq (.t 60) (.c (.int .u8 48))))⟩, ⟨(some 62), none, (.op (.mov (.t 61)))⟩, ⟨(some 63), (some (62, true)), (.op (.mov (.t 3)))⟩, ⟨(some 64), (some (62, true)), (.op (.bin .leq (.t 63) (.c (.int .u8 57))))⟩, ⟨(some 65), none, (.op (.pick (.t 62) (.t 64) (.c (.bool false))))⟩, ⟨(some 57), none, (.op (.mov (.t 65)))⟩])))
    (.cond (.t 57) (.reg [⟨(some 66), none, (.op (.loadL (.t 1)))⟩, ⟨(some 67), none, (.call 29 [(.t 66)])⟩, ⟨(some 68), none, (.op (.fadr 0 (.t 4)))⟩, ⟨none, none, (.op (.store 1 (.t 68) (.c (.int .i64 2))))⟩, ⟨(some 69), none, (.op (.fadr 2 (.t 4)))⟩, ⟨none, none, (.op (.store 1 (.t 69) (.t 67)))⟩]) (.seq (.reg [⟨(some 71), none, (.op (.mov (.t 3)))⟩, ⟨(some 72), none, (.op (.bin .eql (.t 71) (.c (.int .u8 91))))⟩, ⟨(some 70), none, (.op (.mov (.t 72)))⟩])
    (.cond (.t 70) (.seq (.reg [⟨(some 73), none, (.op (.fadr 0 (.t 4)))⟩, ⟨none, none, (.op (.store 1 (.t 73) (.c (.int .i64 4))))⟩])
    (.reg [⟨(some 74), none, (.op (.loadL (.t 1)))⟩, ⟨(some 75), none, (.op (.mkF (.func 31) [] [(.t 4), (.t 1)]))⟩, ⟨(some 76), none, (.call 30 [(.t 74), (.c (.int .u8 93)), (.t 75)])⟩])) (.seq (.reg [⟨(some 78), none, (.op (.mov (.t 3)))⟩, ⟨(some 79), none, (.op (.bin .eql (.t 78) (.c (.int .u8 123))))⟩, ⟨(some 77), none, (.op (.mov (.t 79)))⟩])
    (.cond (.t 77) (.seq (.reg [⟨(some 80), none, (.op (.fadr 0 (.t 4)))⟩, ⟨none, none, (.op (.store 1 (.t 80) (.c (.int .i64 5))))⟩])
    (.reg [⟨(some 81), none, (.op (.loadL (.t 1)))⟩, ⟨(some 82), none, (.op (.mkF (.func 32) [] [(.t 4), (.t 1)]))⟩, ⟨(some 83), none, (.call 30 [(.t 81), (.c (.int .u8 125)), (.t 82)])⟩])) (.reg [⟨(some 27), none, (.op (.loadL (.t 1)))⟩, ⟨(some 28), none, (.call 34 [(.t 27)])⟩]))))))))))))))))
    (.seq (.reg [⟨(some 84), none, (.op (.loadA 7 (.t 4)))⟩, ⟨none, none, (.op (.store 7 (.t 2) (.t 84)))⟩])
    .ret)))))),
    res := [(.a 7 2)] }

theorem cf_pvalue : cfunc Go.Proofs.Tryz.prog 16 = some vf_pvalue := by kernel_rfl

/-- value1 -/
def vf_value1 : VFunc :=
  { m := 11, code := (.seq (.draw [⟨⟨(some 2), none, (.op (.fadr 4 (.t 0)))⟩, none⟩, ⟨⟨(some 3), none, (.op (.loadL (.t 2)))⟩, none⟩, ⟨⟨(some 4), none, (.op (.loadL (.t 1)))⟩, none⟩, ⟨⟨(some 6), none, (.op (.lenV (.t 3)))⟩, none⟩, ⟨⟨(some 7), none, (.op (.bslc 7 [(.c (.agg [(.int .i64 0), (.bool false), (.int .i64 0), (.str []), (.slc false [] .no), (.slc false [] .no), (.int .i64 0)]))]))⟩, none⟩, ⟨⟨(some 5), none, (.call 16 [(.t 4)])⟩, (some [⟨(some 2), none, (.op (.fadr 4 (.t 0)))⟩, ⟨(some 3), none, (.op (.loadL (.t 2)))⟩, ⟨(some 6), none, (.op (.lenV (.t 3)))⟩, ⟨(some 7), none, (.op (.bslc 7 [(.c (.agg [(.int .i64 0), (.bool false), (.int .i64 0), (.str []), (.slc false [] .no), (.slc false [] .no), (.int .i64 0)]))]))⟩])⟩])
    (.tail ⟨26, 7, [(.int .i64 0), (.bool false), (.int .i64 0), (.str []), (.slc false [] .no), (.slc false [] .no), (.int .i64 0)], (.t 3), (.t 7), (.t 6), (.t 5), (.t 0), 4, 8, 9, 10⟩)),
    res := [] }

theorem cf_value1 : cfunc Go.Proofs.Tryz.prog 31 = some vf_value1 := by kernel_rfl

/-- value2 -/
def vf_value2 : VFunc :=
  { m := 13, code := (.seq (.draw [⟨⟨(some 2), none, (.op (.fadr 5 (.t 0)))⟩, none⟩, ⟨⟨(some 3), none, (.op (.loadL (.t 2)))⟩, none⟩, ⟨⟨(some 4), none, (.op (.loadL (.t 1)))⟩, none⟩, ⟨⟨(some 5), none, (.op (.fadr 5 (.t 0)))⟩, none⟩, ⟨⟨(some 6), none, (.op (.loadL (.t 5)))⟩, none⟩, ⟨⟨(some 8), none, (.op (.lenV (.t 3)))⟩, none⟩, ⟨⟨(some 9), none, (.op (.bslc 9 [(.c (.agg [(.str []), (.int .i64 0), (.bool false), (.int .i64 0), (.str []), (.slc false [] .no), (.slc false [] .no), (.int .i64 0), (.int .i64 0)]))]))⟩, none⟩, ⟨⟨(some 7), none, (.call 33 [(.t 4), (.t 6)])⟩, (some [⟨(some 2), none, (.op (.fadr 5 (.t 0)))⟩, ⟨(some 3), none, (.op (.loadL (.t 2)))⟩, ⟨(some 8), none, (.op (.lenV (.t 3)))⟩, ⟨(some 9), none, (.op (.bslc 9 [(.c (.agg [(.str []), (.int .i64 0), (.bool false), (.int .i64 0), (.str []), (.slc false [] .no), (.slc false [] .no), (.int .i64 0), (.int .i64 0)]))]))⟩])⟩])
    (.tail ⟨41, 9, [(.str []), (.int .i64 0), (.bool false), (.int .i64 0), (.str []), (.slc false [] .no), (.slc false [] .no), (.int .i64 0), (.int .i64 0)], (.t 3), (.t 9), (.t 8), (.t 7), (.t 0), 5, 10, 11, 12⟩)),
    res := [] }

theorem cf_value2 : cfunc Go.Proofs.Tryz.prog 32 = some vf_value2 := by kernel_rfl

/-- begins -/
def vf_begins : VFunc :=
  { m := 6, code := (.seq (.reg [⟨(some 2), none, (.op (.mov (.c (.bool false))))⟩])
    (.seq (.reg [⟨(some 3), none, (.op (.mov (.t 0)))⟩, ⟨(some 4), none, (.call 44 [(.c (.str [110, 116, 102, 34, 45, 48, 49, 50, 51, 52, 53, 54, 55, 56, 57, 91, 123])), (.t 3)])⟩, ⟨(some 5), none, (.op (.bin .geq (.t 4) (.c (.int .i64 0))))⟩, ⟨(some 2), none, (.op (.mov (.t 5)))⟩])
    .ret)),
    res := [(.t 2)] }

theorem cf_begins : cfunc Go.Proofs.Tryz.prog 26 = some vf_begins := by kernel_rfl

/-- jvParse -/
def vd_jvParse : VDefer :=
  ⟨35,
    (.reg [⟨(some 2), none, (.op (.alloc 26 [(.int .i64 0), (.bool false), (.int .i64 0), (.str []), (.slc false [] .no), (.slc false [] .no), (.int .i64 0)]))⟩, ⟨(some 3), none, (.op (.alloc 3 [(.int .i64 0)]))⟩, ⟨(some 4), none, (.op (.alloc 27 [(.int .i64 0)]))⟩]),
    6,
    15,
    [(.t 2), (.t 3), (.t 4)],
    (.seq (.reg [⟨(some 7), none, (.op (.mov (.t 0)))⟩, ⟨(some 8), none, (.op (.build [(.str []), (.int .i64 0), (.int .i64 0)] [((0, 1), (.t 7))]))⟩, ⟨(some 9), none, (.op (.box 49 (.t 8)))⟩, ⟨(some 5), none, (.op (.mov (.t 9)))⟩])
    (.seq (.seq (.reg [⟨(some 10), none, (.op (.mov (.t 0)))⟩, ⟨(some 11), none, (.call 9 [(.t 10), (.c (.str [239, 187, 191]))])⟩])
    (.cond (.t 11) (.reg [⟨(some 12), none, (.op (.mov (.t 5)))⟩, ⟨(some 13), none, (.op (.nilck (.t 12)))⟩, ⟨(some 14), none, (.op (.fadr 1 (.t 13)))⟩, ⟨none, none, (.op (.store 1 (.t 14) (.c (.int .i64 3))))⟩]) .skip))
    (.seq (.reg [⟨(some 15), none, (.op (.mov (.t 5)))⟩, ⟨(some 16), none, (.call 16 [(.t 15)])⟩, ⟨none, none, (.op (.store 7 (.t 2) (.t 16)))⟩])
    (.seq (.seq (.reg [⟨(some 17), none, (.op (.mov (.t 5)))⟩, ⟨(some 18), none, (.call 17 [(.t 17)])⟩])
    (.seq (.reg [⟨(some 19), none, (.op (.mov (.t 5)))⟩, ⟨(some 20), none, (.op (.nilck (.t 19)))⟩, ⟨(some 21), none, (.op (.fadr 1 (.t 20)))⟩, ⟨(some 22), none, (.op (.loadL (.t 21)))⟩, ⟨(some 23), none, (.op (.mov (.t 0)))⟩, ⟨(some 24), none, (.op (.lenS (.t 23)))⟩, ⟨(some 25), none, (.op (.bin .lss (.t 22) (.t 24)))⟩])
    (.cond (.t 25) (.reg [⟨(some 26), none, (.op (.mov (.t 5)))⟩, ⟨(some 27), none, (.op (.nilck (.t 26)))⟩, ⟨(some 28), none, (.op (.fadr 1 (.t 27)))⟩, ⟨(some 29), none, (.op (.loadL (.t 28)))⟩, ⟨(some 30), none, (.op (.build [(.int .i64 0), (.int .i64 0)] [((0, 1), (.t 29)), ((1, 1), (.c (.int .i64 17)))]))⟩, ⟨(some 31), none, (.op (.mkI 45 (.t 30)))⟩, ⟨none, none, (.panic (.t 31))⟩]) .skip)))
    (.seq (.reg [⟨(some 32), none, (.op (.loadA 7 (.t 2)))⟩, ⟨(some 33), none, (.op (.mov (.t 0)))⟩, ⟨(some 34), none, (.op (.lenS (.t 33)))⟩, ⟨none, none, (.op (.store 7 (.t 2) (.t 32)))⟩, ⟨none, none, (.op (.store 1 (.t 3) (.t 34)))⟩, ⟨none, none, (.op (.store 1 (.t 4) (.c (.int .i64 0))))⟩])
    .ret))))),
    [(.a 7 2), (.l 3), (.l 4)],
    22,
    6,
    3,
    (.seq (.reg [⟨(some 7), none, (.op (.mov (.t 3)))⟩, ⟨(some 8), none, (.op (.eqN .i true (.t 7) (.c .nilI)))⟩])
    (.cond (.t 8) (.seq (.reg [⟨(some 10), none, (.op (.mov (.t 3)))⟩, ⟨(some 11), none, (.op (.tasOk 45 (.agg [(.int .i64 0), (.int .i64 0)]) (.t 10)))⟩, ⟨(some 9), none, (.op (.mov (.t 11)))⟩, ⟨(some 12), none, (.op (.ext (.t 9) 0))⟩, ⟨(some 13), none, (.op (.ext (.t 9) 1))⟩, ⟨(some 4), none, (.op (.alloc 45 [(.int .i64 0), (.int .i64 0)]))⟩, ⟨none, none, (.op (.store 2 (.t 4) (.t 12)))⟩, ⟨(some 5), none, (.op (.mov (.t 13)))⟩])
    (.seq (.seq (.reg [⟨(some 14), none, (.op (.mov (.t 5)))⟩, ⟨(some 15), none, (.op (.un .not (.t 14)))⟩])
    (.cond (.t 15) (.reg [⟨(some 16), none, (.op (.mov (.t 3)))⟩, ⟨none, none, (.panic (.t 16))⟩]) .skip))
    (.draw [⟨⟨(some 17), none, (.op (.build [(.int .i64 0), (.bool false), (.int .i64 0), (.str []), (.slc false [] .no), (.slc false [] .no), (.int .i64 0)] []))⟩, none⟩, ⟨⟨(some 18), none, (.op (.fadr 0 (.t 4)))⟩, none⟩, ⟨⟨(some 19), none, (.op (.loadL (.t 18)))⟩, none⟩, ⟨⟨(some 20), none, (.op (.fadr 1 (.t 4)))⟩, none⟩, ⟨⟨(some 21), none, (.op (.loadL (.t 20)))⟩, none⟩, ⟨⟨none, none, (.op (.store 7 (.t 0) (.t 17)))⟩, (some [⟨(some 18), none, (.op (.fadr 0 (.t 4)))⟩, ⟨(some 19), none, (.op (.loadL (.t 18)))⟩, ⟨(some 20), none, (.op (.fadr 1 (.t 4)))⟩, ⟨(some 21), none, (.op (.loadL (.t 20)))⟩])⟩, ⟨⟨none, none, (.op (.store 1 (.t 1) (.t 19)))⟩, (some [⟨(some 20), none, (.op (.fadr 1 (.t 4)))⟩, ⟨(some 21), none, (.op (.loadL (.t 20)))⟩])⟩, ⟨⟨none, none, (.op (.store 1 (.t 2) (.t 21)))⟩, (some [])⟩]))) .skip))⟩

theorem cd_jvParse : cdefer Go.Proofs.Tryz.prog 6 = some vd_jvParse := by kernel_rfl

/-- jvDepth -/
def vf_jvDepth : VFunc :=
  { m := 41, code := (.seq (.reg [⟨(some 1), none, (.op (.box 26 (.t 0)))⟩, ⟨(some 2), none, (.op (.mov (.c (.int .i64 0))))⟩])
    (.seq (.reg [⟨(some 3), none, (.op (.mov (.c (.int .i64 0))))⟩])
    (.seq (.seq (.reg [⟨(some 8), none, (.op (.fadr 0 (.t 1)))⟩, ⟨(some 9), none, (.op (.loadL (.t 8)))⟩])
    (.block 0 (.seq (.reg [⟨(some 11), none, (.op (.bin .eql (.t 9) (.c (.int .i64 4))))⟩, ⟨(some 10), none, (.op (.mov (.t 11)))⟩])
    (.cond (.t 10) (.seq (.reg [⟨(some 12), none, (.op (.fadr 4 (.t 1)))⟩, ⟨(some 13), none, (.op (.loadL (.t 12)))⟩, ⟨(some 14), none, (.op (.lenV (.t 13)))⟩, ⟨(some 15), none, (.op (.mov (.c (.int .i64 0))))⟩])
    (.block 1 (.loop (.seq (.reg [⟨(some 16), none, (.op (.bin .lss (.t 15) (.t 14)))⟩])
    (.seq (.cond (.t 16) .skip (.exit 1))
    (.seq (.block 2 (.seq (.reg [⟨(some 17), none, (.op (.iadV 7 (.t 13) (.t 15)))⟩, ⟨(some 18), none, (.op (.loadA 7 (.t 17)))⟩, ⟨(some 5), none, (.op (.alloc 26 [(.int .i64 0), (.bool false), (.int .i64 0), (.str []), (.slc false [] .no), (.slc false [] .no), (.int .i64 0)]))⟩, ⟨none, none, (.op (.store 7 (.t 5) (.t 18)))⟩])
    (.reg [⟨(some 19), none, (.op (.mov (.t 3)))⟩, ⟨(some 20), none, (.op (.loadA 7 (.t 5)))⟩, ⟨(some 21), none, (.call 12 [(.t 20)])⟩, ⟨(some 22), none, (.op (.mx [(.t 19), (.t 21)]))⟩, ⟨(some 3), none, (.op (.mov (.t 22)))⟩])))
    (.reg [⟨(some 23), none, (.op (.bin .add (.t 15) (.c (.int .i64 1))))⟩, ⟨(some 15), none, (.op (.mov (.t 23)))⟩]))))))) (.seq (.reg [⟨(some 25), none, (.op (.bin .eql (.t 9) (.c (.int .i64 5))))⟩, ⟨(some 24), none, (.op (.mov (.t 25)))⟩])
    (.cond (.t 24) (.seq (.reg [⟨(some 26), none, (.op (.fadr 5 (.t 1)))⟩, ⟨(some 27), none, (.op (.loadL (.t 26)))⟩, ⟨(some 28), none, (.op (.lenV (.t 27)))⟩, ⟨(some 29), none, (.op (.mov (.c (.int .i64 0))))⟩])
    (.block 3 (.loop (.seq (.reg [⟨(some 30), none, (.op (.bin .lss (.t 29) (.t 28)))⟩])
    (.seq (.cond (.t 30) .skip (.exit 3))
    (.seq (.block 4 (.seq (.reg [⟨(some 31), none, (.op (.iadV 9 (.t 27) (.t 29)))⟩, ⟨(some 32), none, (.op (.loadA 9 (.t 31)))⟩, ⟨(some 7), none, (.op (.alloc 41 [(.str []), (.int .i64 0), (.bool false), (.int .i64 0), (.str []), (.slc false [] .no), (.slc false [] .no), (.int .i64 0), (.int .i64 0)]))⟩, ⟨none, none, (.op (.store 9 (.t 7) (.t 32)))⟩])
    (.reg [⟨(some 33), none, (.op (.mov (.t 3)))⟩, ⟨(some 34), none, (.op (.fadr 1 (.t 7)))⟩, ⟨(some 35), none, (.op (.loadA 7 (.t 34)))⟩, ⟨(some 36), none, (.call 12 [(.t 35)])⟩, ⟨(some 37), none, (.op (.mx [(.t 33), (.t 36)]))⟩, ⟨(some 3), none, (.op (.mov (.t 37)))⟩])))
    (.reg [⟨(some 38), none, (.op (.bin .add (.t 29) (.c (.int .i64 1))))⟩, ⟨(some 29), none, (.op (.mov (.t 38)))⟩]))))))) .skip))))))
    (.seq (.reg [⟨(some 39), none, (.op (.mov (.t 3)))⟩, ⟨(some 40), none, (.op (.bin .add (.t 39) (.c (.int .i64 1))))⟩, ⟨(some 2), none, (.op (.mov (.t 40)))⟩])
    .ret)))),
    res := [(.t 2)] }

theorem cf_jvDepth : cfunc Go.Proofs.Tryz.prog 12 = some vf_jvDepth := by kernel_rfl

/-- jvEqual -/
def vf_jvEqual : VFunc :=
  { m := 43, code := (.seq (.reg [⟨(some 2), none, (.op (.box 26 (.t 0)))⟩, ⟨(some 3), none, (.op (.box 26 (.t 1)))⟩, ⟨(some 4), none, (.op (.mov (.c (.bool false))))⟩])
    (.seq (.seq (.reg [⟨(some 5), none, (.op (.fadr 0 (.t 2)))⟩, ⟨(some 6), none, (.op (.loadL (.t 5)))⟩, ⟨(some 7), none, (.op (.fadr 0 (.t 3)))⟩, ⟨(some 8), none, (.op (.loadL (.t 7)))⟩, ⟨(some 9), none, (.op (.bin .neq (.t 6) (.t 8)))⟩, ⟨(some 10), none, (.op (.mov (.t 9)))⟩, ⟨(some 11), (some (10, false)), (.op (.fadr 1 (.t 2)))⟩, ⟨(some 12), (some (10, false)), (.op (.loadL (.t 11)))⟩, ⟨(some 13), (some (10, false)), (.op (.fadr 1 (.t 3)))⟩, ⟨(some 14), (some (10, false)), (.op (.loadL (.t 13)))⟩, ⟨(some 15), (some (10, false)), (.op (.eqB true (.t 12) (.t 14)))⟩, ⟨(some 16), none, (.op (.pick (.t 10) (.c (.bool true)) (.t 15)))⟩, ⟨(some 17), none, (.op (.mov (.t 16)))⟩, ⟨(some 18), (some (17, false)), (.op (.fadr 2 (.t 2)))⟩, ⟨(some 19), (some (17, false)), (.op (.loadL (.t 18)))⟩, ⟨(some 20), (some (17, false)), (.op (.fadr 2 (.t 3)))⟩, ⟨(some 21), (some (17, false)), (.op (.loadL (.t 20)))⟩, ⟨(some 22), (some (17, false)), (.op (.bin .neq (.t 19) (.t 21)))⟩, ⟨(some 23), none, (.op (.pick (.t 17) (.c (.bool true)) (.t 22)))⟩, ⟨(some 24), none, (.op (.mov (.t 23)))⟩, ⟨(some 25), (some (24, false)), (.op (.fadr 3 (.t 2)))⟩, ⟨(some 26), (some (24, false)), (.op (.loadL (.t 25)))⟩, ⟨(some 27), (some (24, false)), (.op (.fadr 3 (.t 3)))⟩, ⟨(some 28), (some (24, false)), (.op (.loadL (.t 27)))⟩, ⟨(some 29), (some (24, false)), (.op (.bin .neq (.t 26) (.t 28)))⟩, ⟨(some 30), none, (.op (.pick (.t 24) (.c (.bool true)) (.t 29)))⟩])
    (.cond (.t 30) (.seq (.reg [⟨(some 4), none, (.op (.mov (.c (.bool false))))⟩])
    .ret) .skip))
    (.seq (.reg [⟨(some 31), none, (.op (.fadr 4 (.t 2)))⟩, ⟨(some 32), none, (.op (.loadL (.t 31)))⟩, ⟨(some 33), none, (.op (.fadr 4 (.t 3)))⟩, ⟨(some 34), none, (.op (.loadL (.t 33)))⟩, ⟨(some 35), none, (.call 22 [(.t 32), (.t 34), (.c (.fn (.func 13) [] []))])⟩, ⟨(some 36), none, (.op (.mov (.t 35)))⟩, ⟨(some 37), (some (36, true)), (.op (.fadr 5 (.t 2)))⟩, ⟨(some 38), (some (36, true)), (.op (.loadL (.t 37)))⟩, ⟨(some 39), (some (36, true)), (.op (.fadr 5 (.t 3)))⟩, ⟨(some 40), (some (36, true)), (.op (.loadL (.t 39)))⟩, ⟨(some 41), (some (36, true)), (.call 23 [(.t 38), (.t 40), (.c (.fn (.func 24) [] []))])⟩, ⟨(some 42), none, (.op (.pick (.t 36) (.t 41) (.c (.bool false))))⟩, ⟨(some 4), none, (.op (.mov (.t 42)))⟩])
    .ret))),
    res := [(.t 4)] }

theorem cf_jvEqual : cfunc Go.Proofs.Tryz.prog 13 = some vf_jvEqual := by kernel_rfl

/-- jvEqual1 -/
def vf_jvEqual1 : VFunc :=
  { m := 17, code := (.seq (.reg [⟨(some 2), none, (.op (.box 41 (.t 0)))⟩, ⟨(some 3), none, (.op (.box 41 (.t 1)))⟩, ⟨(some 4), none, (.op (.mov (.c (.bool false))))⟩])
    (.seq (.reg [⟨(some 5), none, (.op (.fadr 0 (.t 2)))⟩, ⟨(some 6), none, (.op (.loadL (.t 5)))⟩, ⟨(some 7), none, (.op (.fadr 0 (.t 3)))⟩, ⟨(some 8), none, (.op (.loadL (.t 7)))⟩, ⟨(some 9), none, (.op (.bin .eql (.t 6) (.t 8)))⟩, ⟨(some 10), none, (.op (.mov (.t 9)))⟩, ⟨(some 11), (some (10, true)), (.op (.fadr 1 (.t 2)))⟩, ⟨(some 12), (some (10, true)), (.op (.loadA 7 (.t 11)))⟩, ⟨(some 13), (some (10, true)), (.op (.fadr 1 (.t 3)))⟩, ⟨(some 14), (some (10, true)), (.op (.loadA 7 (.t 13)))⟩, ⟨(some 15), (some (10, true)), (.call 13 [(.t 12), (.t 14)])⟩, ⟨(some 16), none, (.op (.pick (.t 10) (.t 15) (.c (.bool false))))⟩, ⟨(some 4), none, (.op (.mov (.t 16)))⟩])
    .ret)),
    res := [(.t 4)] }

theorem cf_jvEqual1 : cfunc Go.Proofs.Tryz.prog 24 = some vf_jvEqual1 := by kernel_rfl

/-- jvStrip -/
def vf_jvStrip : VFunc :=
  { m := 52, code := (.seq (.reg [⟨(some 1), none, (.op (.box 26 (.t 0)))⟩, ⟨(some 2), none, (.op (.alloc 26 [(.int .i64 0), (.bool false), (.int .i64 0), (.str []), (.slc false [] .no), (.slc false [] .no), (.int .i64 0)]))⟩])
    (.seq (.reg [⟨(some 8), none, (.op (.fadr 0 (.t 1)))⟩, ⟨(some 9), none, (.op (.loadL (.t 8)))⟩, ⟨(some 10), none, (.op (.fadr 1 (.t 1)))⟩, ⟨(some 11), none, (.op (.loadL (.t 10)))⟩, ⟨(some 12), none, (.op (.fadr 2 (.t 1)))⟩, ⟨(some 13), none, (.op (.loadL (.t 12)))⟩, ⟨(some 14), none, (.op (.fadr 3 (.t 1)))⟩, ⟨(some 15), none, (.op (.loadL (.t 14)))⟩, ⟨(some 16), none, (.op (.build [(.int .i64 0), (.bool false), (.int .i64 0), (.str []), (.slc false [] .no), (.slc false [] .no), (.int .i64 0)] [((0, 1), (.t 9)), ((1, 1), (.t 11)), ((2, 1), (.t 13)), ((3, 1), (.t 15))]))⟩, ⟨(some 3), none, (.op (.alloc 26 [(.int .i64 0), (.bool false), (.int .i64 0), (.str []), (.slc false [] .no), (.slc false [] .no), (.int .i64 0)]))⟩, ⟨none, none, (.op (.store 7 (.t 3) (.t 16)))⟩])
    (.seq (.seq (.reg [⟨(some 17), none, (.op (.fadr 4 (.t 1)))⟩, ⟨(some 18), none, (.op (.loadL (.t 17)))⟩, ⟨(some 19), none, (.op (.lenV (.t 18)))⟩, ⟨(some 20), none, (.op (.mov (.c (.int .i64 0))))⟩])
    (.block 0 (.loop (.seq (.reg [⟨(some 21), none, (.op (.bin .lss (.t 20) (.t 19)))⟩])
    (.seq (.cond (.t 21) .skip (.exit 0))
    (.seq (.block 1 (.seq (.reg [⟨(some 22), none, (.op (.iadV 7 (.t 18) (.t 20)))⟩, ⟨(some 23), none, (.op (.loadA 7 (.t 22)))⟩, ⟨(some 5), none, (.op (.alloc 26 [(.int .i64 0), (.bool false), (.int .i64 0), (.str []), (.slc false [] .no), (.slc false [] .no), (.int .i64 0)]))⟩, ⟨none, none, (.op (.store 7 (.t 5) (.t 23)))⟩])
    (.draw [⟨⟨(some 24), none, (.op (.fadr 4 (.t 3)))⟩, none⟩, ⟨⟨(some 25), none, (.op (.loadL (.t 24)))⟩, none⟩, ⟨⟨(some 26), none, (.op (.loadA 7 (.t 5)))⟩, none⟩, ⟨⟨(some 27), none, (.call 14 [(.t 26)])⟩, (some [⟨(some 24), none, (.op (.fadr 4 (.t 3)))⟩, ⟨(some 25), none, (.op (.loadL (.t 24)))⟩])⟩, ⟨⟨(some 28), none, (.op (.bslc 7 [(.t 27)]))⟩, none⟩, ⟨⟨(some 29), none, (.op (.app 26 7 [(.int .i64 0), (.bool false), (.int .i64 0), (.str []), (.slc false [] .no), (.slc false [] .no), (.int .i64 0)] (.t 25) (.t 28)))⟩, (some [])⟩, ⟨⟨(some 30), none, (.op (.fadr 4 (.t 3)))⟩, none⟩, ⟨⟨none, none, (.op (.store 1 (.t 30) (.t 29)))⟩, (some [])⟩])))
    (.reg [⟨(some 31), none, (.op (.bin .add (.t 20) (.c (.int .i64 1))))⟩, ⟨(some 20), none, (.op (.mov (.t 31)))⟩])))))))
    (.seq (.seq (.reg [⟨(some 32), none, (.op (.fadr 5 (.t 1)))⟩, ⟨(some 33), none, (.op (.loadL (.t 32)))⟩, ⟨(some 34), none, (.op (.lenV (.t 33)))⟩, ⟨(some 35), none, (.op (.mov (.c (.int .i64 0))))⟩])
    (.block 2 (.loop (.seq (.reg [⟨(some 36), none, (.op (.bin .lss (.t 35) (.t 34)))⟩])
    (.seq (.cond (.t 36) .skip (.exit 2))
    (.seq (.block 3 (.seq (.reg [⟨(some 37), none, (.op (.iadV 9 (.t 33) (.t 35)))⟩, ⟨(some 38), none, (.op (.loadA 9 (.t 37)))⟩, ⟨(some 7), none, (.op (.alloc 41 [(.str []), (.int .i64 0), (.bool false), (.int .i64 0), (.str []), (.slc false [] .no), (.slc false [] .no), (.int .i64 0), (.int .i64 0)]))⟩, ⟨none, none, (.op (.store 9 (.t 7) (.t 38)))⟩])
    (.draw [⟨⟨(some 39), none, (.op (.fadr 5 (.t 3)))⟩, none⟩, ⟨⟨(some 40), none, (.op (.loadL (.t 39)))⟩, none⟩, ⟨⟨(some 41), none, (.op (.fadr 0 (.t 7)))⟩, none⟩, ⟨⟨(some 42), none, (.op (.loadL (.t 41)))⟩, none⟩, ⟨⟨(some 43), none, (.op (.fadr 1 (.t 7)))⟩, none⟩, ⟨⟨(some 44), none, (.op (.loadA 7 (.t 43)))⟩, none⟩, ⟨⟨(some 45), none, (.call 14 [(.t 44)])⟩, (some [⟨(some 39), none, (.op (.fadr 5 (.t 3)))⟩, ⟨(some 40), none, (.op (.loadL (.t 39)))⟩, ⟨(some 41), none, (.op (.fadr 0 (.t 7)))⟩, ⟨(some 42), none, (.op (.loadL (.t 41)))⟩])⟩, ⟨⟨(some 46), none, (.op (.build [(.str []), (.int .i64 0), (.bool false), (.int .i64 0), (.str []), (.slc false [] .no), (.slc false [] .no), (.int .i64 0), (.int .i64 0)] [((0, 1), (.t 42)), ((1, 7), (.t 45))]))⟩, none⟩, ⟨⟨(some 47), none, (.op (.bslc 9 [(.t 46)]))⟩, none⟩, ⟨⟨(some 48), none, (.op (.app 41 9 [(.str []), (.int .i64 0), (.bool false), (.int .i64 0), (.str []), (.slc false [] .no), (.slc false [] .no), (.int .i64 0), (.int .i64 0)] (.t 40) (.t 47)))⟩, (some [])⟩, ⟨⟨(some 49), none, (.op (.fadr 5 (.t 3)))⟩, none⟩, ⟨⟨none, none, (.op (.store 1 (.t 49) (.t 48)))⟩, (some [])⟩])))
    (.reg [⟨(some 50), none, (.op (.bin .add (.t 35) (.c (.int .i64 1))))⟩, ⟨(some 35), none, (.op (.mov (.t 50)))⟩])))))))
    (.seq (.reg [⟨(some 51), none, (.op (.loadA 7 (.t 3)))⟩, ⟨none, none, (.op (.store 7 (.t 2) (.t 51)))⟩])
    .ret))))),
    res := [(.a 7 2)] }

theorem cf_jvStrip : cfunc Go.Proofs.Tryz.prog 14 = some vf_jvStrip := by kernel_rfl

/-- eqFV -/
def vf_eqFV : VFunc :=
  { m := 32, code := (.seq (.reg [⟨(some 6), none, (.op (.mov (.c (.bool false))))⟩])
    (.seq (.seq (.reg [⟨(some 10), none, (.op (.mov (.t 0)))⟩, ⟨(some 11), none, (.op (.lenV (.t 10)))⟩, ⟨(some 12), none, (.op (.mov (.t 1)))⟩, ⟨(some 13), none, (.op (.lenV (.t 12)))⟩, ⟨(some 14), none, (.op (.bin .neq (.t 11) (.t 13)))⟩])
    (.cond (.t 14) (.seq (.reg [⟨(some 6), none, (.op (.mov (.c (.bool false))))⟩])
    .ret) .skip))
    (.seq (.seq (.reg [⟨(some 15), none, (.op (.mov (.t 0)))⟩, ⟨(some 16), none, (.op (.lenV (.t 15)))⟩, ⟨(some 17), none, (.op (.mov (.c (.int .i64 0))))⟩])
    (.block 0 (.loop (.seq (.reg [⟨(some 18), none, (.op (.bin .lss (.t 17) (.t 16)))⟩])
    (.seq (.cond (.t 18) .skip (.exit 0))
    (.seq (.block 1 (.seq (.reg [⟨(some 19), none, (.op (.mov (.t 17)))⟩, ⟨(some 20), none, (.op (.iadV 7 (.t 15) (.t 17)))⟩, ⟨(some 21), none, (.op (.loadA 7 (.t 20)))⟩, ⟨(some 8), none, (.op (.alloc 26 [(.int .i64 0), (.bool false), (.int .i64 0), (.str []), (.slc false [] .no), (.slc false [] .no), (.int .i64 0)]))⟩, ⟨(some 7), none, (.op (.mov (.t 19)))⟩, ⟨none, none, (.op (.store 7 (.t 8) (.t 21)))⟩])
    (.seq (.reg [⟨(some 22), none, (.op (.mov (.t 1)))⟩, ⟨(some 23), none, (.op (.mov (.t 7)))⟩, ⟨(some 24), none, (.op (.iadV 7 (.t 22) (.t 23)))⟩, ⟨(some 25), none, (.op (.loadA 7 (.t 24)))⟩, ⟨(some 9), none, (.op (.alloc 26 [(.int .i64 0), (.bool false), (.int .i64 0), (.str []), (.slc false [] .no), (.slc false [] .no), (.int .i64 0)]))⟩, ⟨none, none, (.op (.store 7 (.t 9) (.t 25)))⟩])
    (.seq (.reg [⟨(some 26), none, (.op (.mov (.t 2)))⟩, ⟨(some 27), none, (.op (.loadA 7 (.t 8)))⟩, ⟨(some 28), none, (.op (.loadA 7 (.t 9)))⟩, ⟨(some 29), none, (.callV (.t 26) [(.t 27), (.t 28)])⟩, ⟨(some 30), none, (.op (.un .not (.t 29)))⟩])
    (.cond (.t 30) (.seq (.reg [⟨(some 6), none, (.op (.mov (.c (.bool false))))⟩])
    .ret) .skip)))))
    (.reg [⟨(some 31), none, (.op (.bin .add (.t 17) (.c (.int .i64 1))))⟩, ⟨(some 17), none, (.op (.mov (.t 31)))⟩])))))))
    (.seq (.reg [⟨(some 6), none, (.op (.mov (.c (.bool true))))⟩])
    .ret)))),
    res := [(.t 6)] }

theorem cf_eqFV : cfunc Go.Proofs.Tryz.prog 22 = some vf_eqFV := by kernel_rfl

/-- eqFM -/
def vf_eqFM : VFunc :=
  { m := 32, code := (.seq (.reg [⟨(some 6), none, (.op (.mov (.c (.bool false))))⟩])
    (.seq (.seq (.reg [⟨(some 10), none, (.op (.mov (.t 0)))⟩, ⟨(some 11), none, (.op (.lenV (.t 10)))⟩, ⟨(some 12), none, (.op (.mov (.t 1)))⟩, ⟨(some 13), none, (.op (.lenV (.t 12)))⟩, ⟨(some 14), none, (.op (.bin .neq (.t 11) (.t 13)))⟩])
    (.cond (.t 14) (.seq (.reg [⟨(some 6), none, (.op (.mov (.c (.bool false))))⟩])
    .ret) .skip))
    (.seq (.seq (.reg [⟨(some 15), none, (.op (.mov (.t 0)))⟩, ⟨(some 16), none, (.op (.lenV (.t 15)))⟩, ⟨(some 17), none, (.op (.mov (.c (.int .i64 0))))⟩])
    (.block 0 (.loop (.seq (.reg [⟨(some 18), none, (.op (.bin .lss (.t 17) (.t 16)))⟩])
    (.seq (.cond (.t 18) .skip (.exit 0))
    (.seq (.block 1 (.seq (.reg [⟨(some 19), none, (.op (.mov (.t 17)))⟩, ⟨(some 20), none, (.op (.iadV 9 (.t 15) (.t 17)))⟩, ⟨(some 21), none, (.op (.loadA 9 (.t 20)))⟩, ⟨(some 8), none, (.op (.alloc 41 [(.str []), (.int .i64 0), (.bool false), (.int .i64 0), (.str []), (.slc false [] .no), (.slc false [] .no), (.int .i64 0), (.int .i64 0)]))⟩, ⟨(some 7), none, (.op (.mov (.t 19)))⟩, ⟨none, none, (.op (.store 9 (.t 8) (.t 21)))⟩])
    (.seq (.reg [⟨(some 22), none, (.op (.mov (.t 1)))⟩, ⟨(some 23), none, (.op (.mov (.t 7)))⟩, ⟨(some 24), none, (.op (.iadV 9 (.t 22) (.t 23)))⟩, ⟨(some 25), none, (.op (.loadA 9 (.t 24)))⟩, ⟨(some 9), none, (.op (.alloc 41 [(.str []), (.int .i64 0), (.bool false), (.int .i64 0), (.str []), (.slc false [] .no), (.slc false [] .no), (.int .i64 0), (.int .i64 0)]))⟩, ⟨none, none, (.op (.store 9 (.t 9) (.t 25)))⟩])
    (.seq (.reg [⟨(some 26), none, (.op (.mov (.t 2)))⟩, ⟨(some 27), none, (.op (.loadA 9 (.t 8)))⟩, ⟨(some 28), none, (.op (.loadA 9 (.t 9)))⟩, ⟨(some 29), none, (.callV (.t 26) [(.t 27), (.t 28)])⟩, ⟨(some 30), none, (.op (.un .not (.t 29)))⟩])
    (.cond (.t 30) (.seq (.reg [⟨(some 6), none, (.op (.mov (.c (.bool false))))⟩])
    .ret) .skip)))))
    (.reg [⟨(some 31), none, (.op (.bin .add (.t 17) (.c (.int .i64 1))))⟩, ⟨(some 17), none, (.op (.mov (.t 31)))⟩])))))))
    (.seq (.reg [⟨(some 6), none, (.op (.mov (.c (.bool true))))⟩])
    .ret)))),
    res := [(.t 6)] }

theorem cf_eqFM : cfunc Go.Proofs.Tryz.prog 23 = some vf_eqFM := by kernel_rfl

/-- contF -/
def vf_contF : VFunc :=
  { m := 9, code := (.seq (.reg [⟨(some 4), none, (.op (.mov (.c (.bool false))))⟩])
    (.seq (.reg [⟨(some 5), none, (.op (.mov (.t 0)))⟩, ⟨(some 6), none, (.op (.mov (.t 1)))⟩, ⟨(some 7), none, (.call 68 [(.t 5), (.t 6)])⟩, ⟨(some 8), none, (.op (.bin .geq (.t 7) (.c (.int .i64 0))))⟩, ⟨(some 4), none, (.op (.mov (.t 8)))⟩])
    .ret)),
    res := [(.t 4)] }

theorem cf_contF : cfunc Go.Proofs.Tryz.prog 50 = some vf_contF := by kernel_rfl

/-- idxF -/
def vf_idxF : VFunc :=
  { m := 19, code := (.seq (.reg [⟨(some 4), none, (.op (.mov (.c (.int .i64 0))))⟩])
    (.seq (.seq (.reg [⟨(some 6), none, (.op (.mov (.t 0)))⟩, ⟨(some 7), none, (.op (.lenV (.t 6)))⟩, ⟨(some 8), none, (.op (.mov (.c (.int .i64 0))))⟩])
    (.block 0 (.loop (.seq (.reg [⟨(some 9), none, (.op (.bin .lss (.t 8) (.t 7)))⟩])
    (.seq (.cond (.t 9) .skip (.exit 0))
    (.seq (.block 1 (.seq (.reg [⟨(some 10), none, (.op (.mov (.t 8)))⟩, ⟨(some 5), none, (.op (.mov (.t 10)))⟩])
    (.seq (.reg [⟨(some 11), none, (.op (.mov (.t 1)))⟩, ⟨(some 12), none, (.op (.mov (.t 0)))⟩, ⟨(some 13), none, (.op (.mov (.t 5)))⟩, ⟨(some 14), none, (.op (.iadV 9 (.t 12) (.t 13)))⟩, ⟨(some 15), none, (.op (.loadA 9 (.t 14)))⟩, ⟨(some 16), none, (.callV (.t 11) [(.t 15)])⟩])
    (.cond (.t 16) (.seq (.reg [⟨(some 17), none, (.op (.mov (.t 5)))⟩, ⟨(some 4), none, (.op (.mov (.t 17)))⟩])
    .ret) .skip))))
    (.reg [⟨(some 18), none, (.op (.bin .add (.t 8) (.c (.int .i64 1))))⟩, ⟨(some 8), none, (.op (.mov (.t 18)))⟩])))))))
    (.seq (.reg [⟨(some 4), none, (.op (.mov (.c (.int .i64 (-1)))))⟩])
    .ret))),
    res := [(.t 4)] }

theorem cf_idxF : cfunc Go.Proofs.Tryz.prog 68 = some vf_idxF := by kernel_rfl

/-- jsParse -/
def vf_jsParse : VFunc :=
  { m := 77, code := (.seq (.reg [⟨(some 4), none, (.op (.mov (.c (.str []))))⟩, ⟨(some 5), none, (.op (.mov (.c (.int .i64 0))))⟩, ⟨(some 6), none, (.op (.mov (.c (.int .i64 0))))⟩])
    (.seq (.seq (.reg [⟨(some 11), none, (.op (.mov (.t 1)))⟩, ⟨(some 12), none, (.op (.bin .lss (.t 11) (.c (.int .i64 0))))⟩, ⟨(some 13), none, (.op (.mov (.t 12)))⟩, ⟨(some 14), (some (13, false)), (.op (.mov (.t 1)))⟩, ⟨(some 15), (some (13, false)), (.op (.mov (.t 0)))⟩, ⟨(some 16), (some (13, false)), (.op (.lenS (.t 15)))⟩, ⟨(some 17), (some (13, false)), (.op (.bin .geq (.t 14) (.t 16)))⟩, ⟨(some 18), none, (.op (.pick (.t 13) (.c (.bool true)) (.t 17)))⟩, ⟨(some 19), none, (.op (.mov (.t 18)))⟩, ⟨(some 20), (some (19, false)), (.op (.mov (.t 0)))⟩, ⟨(some 21), (some (19, false)), (.op (.mov (.t 1)))⟩, ⟨(some 22), (some (19, false)), (.op (.idxS (.t 20) (.t 21)))⟩, ⟨(some 23), (some (19, false)), (.op (.bin .neq (.t 22) (.c (.int .u8 34))))⟩, ⟨(some 24), none, (.op (.pick (.t 19) (.c (.bool true)) (.t 23)))⟩])
    (.cond (.t 24) (.seq (.reg [⟨(some 25), none, (.op (.mov (.t 1)))⟩, ⟨(some 4), none, (.op (.mov (.c (.str []))))⟩, ⟨(some 5), none, (.op (.mov (.t 25)))⟩, ⟨(some 6), none, (.op (.mov (.c (.int .i64 7))))⟩])
    .ret) .skip))
    (.seq (.reg [⟨(some 7), none, (.op (.alloc 91 [(.ref none), (.slc false [] .no)]))⟩])
    (.seq (.reg [⟨(some 26), none, (.op (.mov (.t 1)))⟩, ⟨(some 27), none, (.op (.bin .add (.t 26) (.c (.int .i64 1))))⟩, ⟨(some 8), none, (.op (.mov (.t 27)))⟩])
    (.seq .skip
    (.seq (.block 0 (.loop (.seq (.seq (.reg [⟨(some 28), none, (.op (.mov (.t 8)))⟩, ⟨(some 29), none, (.op (.mov (.t 0)))⟩, ⟨(some 30), none, (.op (.lenS (.t 29)))⟩, ⟨(some 31), none, (.op (.bin .lss (.t 28) (.t 30)))⟩])
    (.cond (.t 31) .skip (.exit 0)))
    (.block 1 (.seq (.reg [⟨(some 33), none, (.op (.mov (.t 0)))⟩, ⟨(some 34), none, (.op (.mov (.t 8)))⟩, ⟨(some 35), none, (.call 57 [(.t 33), (.t 34)])⟩, ⟨(some 32), none, (.op (.mov (.t 35)))⟩, ⟨(some 36), none, (.op (.ext (.t 32) 0))⟩, ⟨(some 37), none, (.op (.ext (.t 32) 1))⟩, ⟨(some 9), none, (.op (.mov (.t 36)))⟩, ⟨(some 10), none, (.op (.mov (.t 37)))⟩])
    (.seq (.block 2 (.seq (.reg [⟨(some 49), none, (.op (.mov (.t 10)))⟩, ⟨(some 50), none, (.op (.bin .eql (.t 49) (.c (.int .i64 0))))⟩, ⟨(some 48), none, (.op (.mov (.t 50)))⟩])
    (.cond (.t 48) (.seq (.reg [⟨(some 51), none, (.op (.mov (.t 8)))⟩, ⟨(some 4), none, (.op (.mov (.c (.str []))))⟩, ⟨(some 5), none, (.op (.mov (.t 51)))⟩, ⟨(some 6), none, (.op (.mov (.c (.int .i64 5))))⟩])
    .ret) (.seq (.reg [⟨(some 53), none, (.op (.mov (.t 9)))⟩, ⟨(some 54), none, (.op (.bin .lss (.t 53) (.c (.int .i32 32))))⟩, ⟨(some 52), none, (.op (.mov (.t 54)))⟩])
    (.cond (.t 52) (.seq (.reg [⟨(some 55), none, (.op (.mov (.t 8)))⟩, ⟨(some 4), none, (.op (.mov (.c (.str []))))⟩, ⟨(some 5), none, (.op (.mov (.t 55)))⟩, ⟨(some 6), none, (.op (.mov (.c (.int .i64 6))))⟩])
    .ret) (.seq (.reg [⟨(some 57), none, (.op (.mov (.t 9)))⟩, ⟨(some 58), none, (.op (.bin .eql (.t 57) (.c (.int .i32 34))))⟩, ⟨(some 56), none, (.op (.mov (.t 58)))⟩])
    (.cond (.t 56) (.seq (.reg [⟨(some 59), none, (.call 58 [(.t 7)])⟩, ⟨(some 60), none, (.op (.mov (.t 8)))⟩, ⟨(some 61), none, (.op (.bin .add (.t 60) (.c (.int .i64 1))))⟩, ⟨(some 4), none, (.op (.mov (.t 59)))⟩, ⟨(some 5), none, (.op (.mov (.t 61)))⟩, ⟨(some 6), none, (.op (.mov (.c (.int .i64 0))))⟩])
    .ret) (.seq (.reg [⟨(some 63), none, (.op (.mov (.t 9)))⟩, ⟨(some 64), none, (.op (.bin .neq (.t 63) (.c (.int .i32 92))))⟩, ⟨(some 62), none, (.op (.mov (.t 64)))⟩])
    (.cond (.t 62) .skip (.seq (.reg [⟨(some 66), none, (.op (.mov (.t 8)))⟩, ⟨(some 67), none, (.op (.bin .add (.t 66) (.c (.int .i64 1))))⟩, ⟨(some 68), none, (.op (.mov (.t 0)))⟩, ⟨(some 69), none, (.op (.lenS (.t 68)))⟩, ⟨(some 70), none, (.op (.bin .eql (.t 67) (.t 69)))⟩, ⟨(some 65), none, (.op (.mov (.t 70)))⟩])
    (.cond (.t 65) (.exit 0) (.seq (.reg [⟨(some 39), none, (.op (.mov (.t 0)))⟩, ⟨(some 40), none, (.op (.mov (.t 8)))⟩, ⟨(some 41), none, (.op (.slS (.t 39) (some (.t 40)) none))⟩, ⟨(some 42), none, (.call 59 [(.t 41)])⟩, ⟨(some 38), none, (.op (.mov (.t 42)))⟩, ⟨(some 43), none, (.op (.ext (.t 38) 0))⟩, ⟨(some 44), none, (.op (.ext (.t 38) 1))⟩, ⟨(some 9), none, (.op (.mov (.t 43)))⟩, ⟨(some 10), none, (.op (.mov (.t 44)))⟩])
    (.seq (.reg [⟨(some 45), none, (.op (.mov (.t 10)))⟩, ⟨(some 46), none, (.op (.bin .eql (.t 45) (.c (.int .i64 0))))⟩])
    (.cond (.t 46) (.seq (.reg [⟨(some 47), none, (.op (.mov (.t 8)))⟩, ⟨(some 4), none, (.op (.mov (.c (.str []))))⟩, ⟨(some 5), none, (.op (.mov (.t 47)))⟩, ⟨(some 6), none, (.op (.mov (.c (.int .i64 16))))⟩])
    .ret) .skip))))))))))))))
    (.seq (.reg [⟨(some 71), none, (.op (.mov (.t 9)))⟩, ⟨(some 72), none, (.call 60 [(.t 7), (.t 71)])⟩])
    (.reg [⟨(some 73), none, (.op (.mov (.t 8)))⟩, ⟨(some 74), none, (.op (.mov (.t 10)))⟩, ⟨(some 75), none, (.op (.bin .add (.t 73) (.t 74)))⟩, ⟨(some 8), none, (.op (.mov (.t 75)))⟩]))))))))
    (.seq (.reg [⟨(some 76), none, (.op (.mov (.t 1)))⟩, ⟨(some 4), none, (.op (.mov (.c (.str []))))⟩, ⟨(some 5), none, (.op (.mov (.t 76)))⟩, ⟨(some 6), none, (.op (.mov (.c (.int .i64 8))))⟩])
    .ret))))))),
    res := [(.t 4), (.t 5), (.t 6)] }

theorem cf_jsParse : cfunc Go.Proofs.Tryz.prog 45 = some vf_jsParse := by kernel_rfl

/-- jsSequence -/
def vf_jsSequence : VFunc :=
  { m := 81, code := (.seq (.reg [⟨(some 2), none, (.op (.mov (.c (.int .i32 0))))⟩, ⟨(some 3), none, (.op (.mov (.c (.int .i64 0))))⟩])
    (.seq (.reg [⟨(some 10), none, (.op (.mov (.t 0)))⟩, ⟨(some 11), none, (.op (.idxS (.t 10) (.c (.int .i64 1))))⟩, ⟨(some 4), none, (.op (.mov (.t 11)))⟩])
    (.seq (.seq (.reg [⟨(some 12), none, (.op (.mov (.t 4)))⟩, ⟨(some 13), none, (.op (.bin .eql (.t 12) (.c (.int .u8 34))))⟩, ⟨(some 14), none, (.op (.mov (.t 13)))⟩, ⟨(some 15), (some (14, false)), (.op (.mov (.t 4)))⟩, ⟨(some 16), (some (14, false)), (.op (.bin .eql (.t 15) (.c (.int .u8 92))))⟩, ⟨(some 17), none, (.op (.pick (.t 14) (.c (.bool true)) (.t 16)))⟩, ⟨(some 18), none, (.op (.mov (.t 17)))⟩, ⟨(some 19), (some (18, false)), (.op (.mov (.t 4)))⟩, ⟨(some 20), (some (18, false)), (.op (.bin .eql (.t 19) (.c (.int .u8 47))))⟩, ⟨(some 21), none, (.op (.pick (.t 18) (.c (.bool true)) (.t 20)))⟩])
    (.cond (.t 21) (.seq (.reg [⟨(some 22), none, (.op (.mov (.t 4)))⟩, ⟨(some 23), none, (.op (.cvI .i32 (.t 22)))⟩, ⟨(some 2), none, (.op (.mov (.t 23)))⟩, ⟨(some 3), none, (.op (.mov (.c (.int .i64 2))))⟩])
    .ret) .skip))
    (.seq (.seq (.reg [⟨(some 24), none, (.op (.loadA 10 (.c (.gref 0 0))))⟩, ⟨(some 25), none, (.op (.mov (.c (.int .i64 0))))⟩])
    (.block 0 (.loop (.seq (.reg [⟨(some 26), none, (.op (.bin .lss (.t 25) (.c (.int .i64 5))))⟩])
    (.seq (.cond (.t 26) .skip (.exit 0))
    (.seq (.block 1 (.seq (.reg [⟨(some 27), none, (.op (.idxA 5 2 (.t 24) (.t 25)))⟩, ⟨(some 6), none, (.op (.alloc 107 [(.int .u8 0), (.int .u8 0)]))⟩, ⟨none, none, (.op (.store 2 (.t 6) (.t 27)))⟩])
    (.seq (.reg [⟨(some 28), none, (.op (.iadA 2 1 (.t 6) (.c (.int .i64 0))))⟩, ⟨(some 29), none, (.op (.loadL (.t 28)))⟩, ⟨(some 30), none, (.op (.mov (.t 4)))⟩, ⟨(some 31), none, (.op (.bin .eql (.t 29) (.t 30)))⟩])
    (.cond (.t 31) (.seq (.reg [⟨(some 32), none, (.op (.iadA 2 1 (.t 6) (.c (.int .i64 1))))⟩, ⟨(some 33), none, (.op (.loadL (.t 32)))⟩, ⟨(some 34), none, (.op (.cvI .i32 (.t 33)))⟩, ⟨(some 2), none, (.op (.mov (.t 34)))⟩, ⟨(some 3), none, (.op (.mov (.c (.int .i64 2))))⟩])
    .ret) .skip))))
    (.reg [⟨(some 35), none, (.op (.bin .add (.t 25) (.c (.int .i64 1))))⟩, ⟨(some 25), none, (.op (.mov (.t 35)))⟩])))))))
    (.seq (.reg [⟨(some 37), none, (.op (.mov (.t 0)))⟩, ⟨(some 38), none, (.call 72 [(.t 37)])⟩, ⟨(some 36), none, (.op (.mov (.t 38)))⟩, ⟨(some 39), none, (.op (.ext (.t 36) 0))⟩, ⟨(some 40), none, (.op (.ext (.t 36) 1))⟩, ⟨(some 7), none, (.op (.mov (.t 39)))⟩, ⟨(some 8), none, (.op (.mov (.t 40)))⟩])
    (.seq (.block 2 (.seq (.seq (.reg [⟨(some 42), none, (.op (.mov (.t 8)))⟩, ⟨(some 43), none, (.op (.un .not (.t 42)))⟩, ⟨(some 41), none, (.op (.mov (.t 43)))⟩])
    (.cond (.t 41) .skip (.reg [⟨(some 44), none, (.op (.mov (.t 7)))⟩, ⟨(some 45), none, (.op (.bin .geq (.t 44) (.c (.int .i32 56320))))⟩, ⟨(some 46), none, (.op (.mov (.t 45)))⟩, ⟨(some 47), (some (46, true)), (.op (.mov (.t 7)))⟩, ⟨(some 48), (some (46, true)), (.op (.bin .leq (.t 47) (.c (.int .i32 57343))))⟩, ⟨(some 49), none, (.op (.pick (.t 46) (.t 48) (.c (.bool false))))⟩, ⟨(some 41), none, (.op (.mov (.t 49)))⟩])))
    (.cond (.t 41) (.seq (.reg [⟨(some 2), none, (.op (.mov (.c (.int .i32 0))))⟩, ⟨(some 3), none, (.op (.mov (.c (.int .i64 0))))⟩])
    .ret) (.seq (.reg [⟨(some 51), none, (.op (.mov (.t 7)))⟩, ⟨(some 52), none, (.op (.bin .lss (.t 51) (.c (.int .i32 55296))))⟩, ⟨(some 53), none, (.op (.mov (.t 52)))⟩, ⟨(some 54), (some (53, false)), (.op (.mov (.t 7)))⟩, ⟨(some 55), (some (53, false)), (.op (.bin .gtr (.t 54) (.c (.int .i32 57343))))⟩, ⟨(some 56), none, (.op (.pick (.t 53) (.c (.bool true)) (.t 55)))⟩, ⟨(some 50), none, (.op (.mov (.t 56)))⟩])
    (.cond (.t 50) (.seq (.reg [⟨(some 57), none, (.op (.mov (.t 7)))⟩, ⟨(some 2), none, (.op (.mov (.t 57)))⟩, ⟨(some 3), none, (.op (.mov (.c (.int .i64 6))))⟩])
    .ret) .skip)))))
    (.seq (.reg [⟨(some 59), none, (.op (.mov (.t 0)))⟩, ⟨(some 60), none, (.op (.slS (.t 59) (some (.c (.int .i64 6))) none))⟩, ⟨(some 61), none, (.call 72 [(.t 60)])⟩, ⟨(some 58), none, (.op (.mov (.t 61)))⟩, ⟨(some 62), none, (.op (.ext (.t 58) 0))⟩, ⟨(some 63), none, (.op (.ext (.t 58) 1))⟩, ⟨(some 9), none, (.op (.mov (.t 62)))⟩, ⟨(some 8), none, (.op (.mov (.t 63)))⟩])
    (.seq (.seq (.reg [⟨(some 64), none, (.op (.mov (.t 8)))⟩, ⟨(some 65), none, (.op (.un .not (.t 64)))⟩, ⟨(some 66), none, (.op (.mov (.t 65)))⟩, ⟨(some 67), (some (66, false)), (.op (.mov (.t 9)))⟩, ⟨(some 68), (some (66, false)), (.op (.bin .lss (.t 67) (.c (.int .i32 56320))))⟩, ⟨(some 69), none, (.op (.pick (.t 66) (.c (.bool true)) (.t 68)))⟩, ⟨(some 70), none, (.op (.mov (.t 69)))⟩, ⟨(some 71), (some (70, false)), (.op (.mov (.t 9)))⟩, ⟨(some 72), (some (70, false)), (.op (.bin .gtr (.t 71) (.c (.int .i32 57343))))⟩, ⟨(some 73), none, (.op (.pick (.t 70) (.c (.bool true)) (.t 72)))⟩])
    (.cond (.t 73) (.seq (.reg [⟨(some 2), none, (.op (.mov (.c (.int .i32 0))))⟩, ⟨(some 3), none, (.op (.mov (.c (.int .i64 0))))⟩])
    .ret) .skip))
    (.seq (.reg [⟨(some 74), none, (.op (.mov (.t 7)))⟩, ⟨(some 75), none, (.op (.bin .sub (.t 74) (.c (.int .i32 55296))))⟩, ⟨(some 76), none, (.op (.bin .shl (.t 75) (.c (.int .u64 10))))⟩, ⟨(some 77), none, (.op (.mov (.t 9)))⟩, ⟨(some 78), none, (.op (.bin .sub (.t 77) (.c (.int .i32 56320))))⟩, ⟨(some 79), none, (.op (.bin .add (.t 76) (.t 78)))⟩, ⟨(some 80), none, (.op (.bin .add (.t 79) (.c (.int .i32 65536))))⟩, ⟨(some 2), none, (.op (.mov (.t 80)))⟩, ⟨(some 3), none, (.op (.mov (.c (.int .i64 12))))⟩])
    .ret))))))))),
    res := [(.t 2), (.t 3)] }

theorem cf_jsSequence : cfunc Go.Proofs.Tryz.prog 59 = some vf_jsSequence := by kernel_rfl

/-- jsUnit -/
def vf_jsUnit : VFunc :=
  { m := 43, code := (.seq (.reg [⟨(some 2), none, (.op (.mov (.c (.int .i32 0))))⟩, ⟨(some 3), none, (.op (.mov (.c (.bool false))))⟩])
    (.seq (.seq (.reg [⟨(some 8), none, (.op (.mov (.t 0)))⟩, ⟨(some 9), none, (.op (.lenS (.t 8)))⟩, ⟨(some 10), none, (.op (.bin .lss (.t 9) (.c (.int .i64 6))))⟩, ⟨(some 11), none, (.op (.mov (.t 10)))⟩, ⟨(some 12), (some (11, false)), (.op (.mov (.t 0)))⟩, ⟨(some 13), (some (11, false)), (.op (.slS (.t 12) none (some (.c (.int .i64 2)))))⟩, ⟨(some 14), (some (11, false)), (.op (.bin .neq (.t 13) (.c (.str [92, 117]))))⟩, ⟨(some 15), none, (.op (.pick (.t 11) (.c (.bool true)) (.t 14)))⟩])
    (.cond (.t 15) (.seq (.reg [⟨(some 2), none, (.op (.mov (.c (.int .i32 0))))⟩, ⟨(some 3), none, (.op (.mov (.c (.bool false))))⟩])
    .ret) .skip))
    (.seq (.reg [⟨(some 4), none, (.op (.mov (.c (.int .i32 0))))⟩])
    (.seq (.seq (.reg [⟨(some 16), none, (.op (.mov (.t 0)))⟩, ⟨(some 17), none, (.op (.slS (.t 16) (some (.c (.int .i64 2))) (some (.c (.int .i64 6)))))⟩, ⟨(some 18), none, (.op (.cvSB (.t 17)))⟩, ⟨(some 19), none, (.op (.lenV (.t 18)))⟩, ⟨(some 20), none, (.op (.mov (.c (.int .i64 0))))⟩])
    (.block 0 (.loop (.seq (.reg [⟨(some 21), none, (.op (.bin .lss (.t 20) (.t 19)))⟩])
    (.seq (.cond (.t 21) .skip (.exit 0))
    (.seq (.block 1 (.seq (.reg [⟨(some 22), none, (.op (.iadV 1 (.t 18) (.t 20)))⟩, ⟨(some 23), none, (.op (.loadL (.t 22)))⟩, ⟨(some 6), none, (.op (.mov (.t 23)))⟩])
    (.seq (.seq (.reg [⟨(some 24), none, (.op (.mov (.t 6)))⟩, ⟨(some 25), none, (.op (.bin .geq (.t 24) (.c (.int .u8 65))))⟩, ⟨(some 26), none, (.op (.mov (.t 25)))⟩, ⟨(some 27), (some (26, true)), (.op (.mov (.t 6)))⟩, ⟨(some 28), (some (26, true)), (.op (.bin .leq (.t 27) (.c (.int .u8 70))))⟩, ⟨(some 29), none, (.op (.pick (.t 26) (.t 28) (.c (.bool false))))⟩])
    (.cond (.t 29) (.reg [⟨(some 30), none, (.op (.mov (.t 6)))⟩, ⟨(some 31), none, (.op (.bin .add (.t 30) (.c (.int .u8 32))))⟩, ⟨(some 6), none, (.op (.mov (.t 31)))⟩]) .skip))
    (.seq (.reg [⟨(some 32), none, (.op (.mov (.t 6)))⟩, ⟨(some 33), none, (.call 44 [(.c (.str [48, 49, 50, 51, 52, 53, 54, 55, 56, 57, 97, 98, 99, 100, 101, 102])), (.t 32)])⟩, ⟨(some 7), none, (.op (.mov (.t 33)))⟩])
    (.seq (.seq (.reg [⟨(some 34), none, (.op (.mov (.t 7)))⟩, ⟨(some 35), none, (.op (.bin .lss (.t 34) (.c (.int .i64 0))))⟩])
    (.cond (.t 35) (.seq (.reg [⟨(some 2), none, (.op (.mov (.c (.int .i32 0))))⟩, ⟨(some 3), none, (.op (.mov (.c (.bool false))))⟩])
    .ret) .skip))
    (.reg [⟨(some 36), none, (.op (.mov (.t 4)))⟩, ⟨(some 37), none, (.op (.bin .shl (.t 36) (.c (.int .u64 4))))⟩, ⟨(some 38), none, (.op (.mov (.t 7)))⟩, ⟨(some 39), none, (.op (.cvI .i32 (.t 38)))⟩, ⟨(some 40), none, (.op (.bin .or (.t 37) (.t 39)))⟩, ⟨(some 4), none, (.op (.mov (.t 40)))⟩]))))))
    (.reg [⟨(some 41), none, (.op (.bin .add (.t 20) (.c (.int .i64 1))))⟩, ⟨(some 20), none, (.op (.mov (.t 41)))⟩])))))))
    (.seq (.reg [⟨(some 42), none, (.op (.mov (.t 4)))⟩, ⟨(some 2), none, (.op (.mov (.t 42)))⟩, ⟨(some 3), none, (.op (.mov (.c (.bool true))))⟩])
    .ret))))),
    res := [(.t 2), (.t 3)] }

theorem cf_jsUnit : cfunc Go.Proofs.Tryz.prog 72 = some vf_jsUnit := by kernel_rfl

/-- hasPrefix -/
def vf_hasPrefix : VFunc :=
  { m := 8, code := (.seq (.reg [⟨(some 4), none, (.op (.mov (.c (.bool false))))⟩])
    (.seq (.reg [⟨(some 5), none, (.op (.mov (.t 0)))⟩, ⟨(some 6), none, (.op (.mov (.t 1)))⟩, ⟨(some 7), none, (.call 21 [(.t 5), (.t 6)])⟩, ⟨(some 4), none, (.op (.mov (.t 7)))⟩])
    .ret)),
    res := [(.t 4)] }

theorem cf_hasPrefix : cfunc Go.Proofs.Tryz.prog 9 = some vf_hasPrefix := by kernel_rfl

/-- slHasPrefix -/
def vf_slHasPrefix : VFunc :=
  { m := 18, code := (.seq (.reg [⟨(some 4), none, (.op (.mov (.c (.bool false))))⟩])
    (.seq (.reg [⟨(some 5), none, (.op (.mov (.t 0)))⟩, ⟨(some 6), none, (.op (.lenS (.t 5)))⟩, ⟨(some 7), none, (.op (.mov (.t 1)))⟩, ⟨(some 8), none, (.op (.lenS (.t 7)))⟩, ⟨(some 9), none, (.op (.bin .geq (.t 6) (.t 8)))⟩, ⟨(some 10), none, (.op (.mov (.t 9)))⟩, ⟨(some 11), (some (10, true)), (.op (.mov (.t 0)))⟩, ⟨(some 12), (some (10, true)), (.op (.mov (.t 1)))⟩, ⟨(some 13), (some (10, true)), (.op (.lenS (.t 12)))⟩, ⟨(some 14), (some (10, true)), (.op (.slS (.t 11) none (some (.t 13))))⟩, ⟨(some 15), (some (10, true)), (.op (.mov (.t 1)))⟩, ⟨(some 16), (some (10, true)), (.op (.bin .eql (.t 14) (.t 15)))⟩, ⟨(some 17), none, (.op (.pick (.t 10) (.t 16) (.c (.bool false))))⟩, ⟨(some 4), none, (.op (.mov (.t 17)))⟩])
    .ret)),
    res := [(.t 4)] }

theorem cf_slHasPrefix : cfunc Go.Proofs.Tryz.prog 21 = some vf_slHasPrefix := by kernel_rfl

/-- trimPrefix -/
def vf_trimPrefix : VFunc :=
  { m := 8, code := (.seq (.reg [⟨(some 4), none, (.op (.mov (.c (.str []))))⟩])
    (.seq (.reg [⟨(some 5), none, (.op (.mov (.t 0)))⟩, ⟨(some 6), none, (.op (.mov (.t 1)))⟩, ⟨(some 7), none, (.call 65 [(.t 5), (.t 6)])⟩, ⟨(some 4), none, (.op (.mov (.t 7)))⟩])
    .ret)),
    res := [(.t 4)] }

theorem cf_trimPrefix : cfunc Go.Proofs.Tryz.prog 47 = some vf_trimPrefix := by kernel_rfl

/-- slTrimPrefix -/
def vf_slTrimPrefix : VFunc :=
  { m := 13, code := (.seq (.reg [⟨(some 4), none, (.op (.mov (.c (.str []))))⟩])
    (.seq (.seq (.reg [⟨(some 5), none, (.op (.mov (.t 0)))⟩, ⟨(some 6), none, (.op (.mov (.t 1)))⟩, ⟨(some 7), none, (.call 21 [(.t 5), (.t 6)])⟩])
    (.cond (.t 7) (.seq (.reg [⟨(some 8), none, (.op (.mov (.t 0)))⟩, ⟨(some 9), none, (.op (.mov (.t 1)))⟩, ⟨(some 10), none, (.op (.lenS (.t 9)))⟩, ⟨(some 11), none, (.op (.slS (.t 8) (some (.t 10)) none))⟩, ⟨(some 4), none, (.op (.mov (.t 11)))⟩])
    .ret) .skip))
    (.seq (.reg [⟨(some 12), none, (.op (.mov (.t 0)))⟩, ⟨(some 4), none, (.op (.mov (.t 12)))⟩])
    .ret))),
    res := [(.t 4)] }

theorem cf_slTrimPrefix : cfunc Go.Proofs.Tryz.prog 65 = some vf_slTrimPrefix := by kernel_rfl

/-- trimLeft -/
def vf_trimLeft : VFunc :=
  { m := 37, code := (.seq (.reg [⟨(some 4), none, (.op (.mov (.c (.str []))))⟩])
    (.seq (.seq (.reg [⟨(some 7), none, (.op (.mov (.t 0)))⟩, ⟨(some 8), none, (.op (.bin .eql (.t 7) (.c (.str []))))⟩, ⟨(some 9), none, (.op (.mov (.t 8)))⟩, ⟨(some 10), (some (9, false)), (.op (.mov (.t 1)))⟩, ⟨(some 11), (some (9, false)), (.op (.bin .eql (.t 10) (.c (.str []))))⟩, ⟨(some 12), none, (.op (.pick (.t 9) (.c (.bool true)) (.t 11)))⟩])
    (.cond (.t 12) (.seq (.reg [⟨(some 13), none, (.op (.mov (.t 0)))⟩, ⟨(some 4), none, (.op (.mov (.t 13)))⟩])
    .ret) .skip))
    (.seq (.seq (.reg [⟨(some 14), none, (.op (.mov (.t 1)))⟩, ⟨(some 15), none, (.op (.lenS (.t 14)))⟩, ⟨(some 16), none, (.op (.bin .eql (.t 15) (.c (.int .i64 1))))⟩, ⟨(some 17), none, (.op (.mov (.t 16)))⟩, ⟨(some 18), (some (17, true)), (.op (.mov (.t 1)))⟩, ⟨(some 19), (some (17, true)), (.op (.idxS (.t 18) (.c (.int .i64 0))))⟩, ⟨(some 20), (some (17, true)), (.op (.bin .lss (.t 19) (.c (.int .u8 128))))⟩, ⟨(some 21), none, (.op (.pick (.t 17) (.t 20) (.c (.bool false))))⟩])
    (.cond (.t 21) (.seq (.reg [⟨(some 22), none, (.op (.mov (.t 0)))⟩, ⟨(some 23), none, (.op (.mov (.t 1)))⟩, ⟨(some 24), none, (.op (.idxS (.t 23) (.c (.int .i64 0))))⟩, ⟨(some 25), none, (.call 61 [(.t 22), (.t 24)])⟩, ⟨(some 4), none, (.op (.mov (.t 25)))⟩])
    .ret) .skip))
    (.seq (.seq (.reg [⟨(some 27), none, (.op (.mov (.t 1)))⟩, ⟨(some 28), none, (.call 62 [(.t 27)])⟩, ⟨(some 26), none, (.op (.mov (.t 28)))⟩, ⟨(some 29), none, (.op (.ext (.t 26) 0))⟩, ⟨(some 30), none, (.op (.ext (.t 26) 1))⟩, ⟨(some 5), none, (.op (.alloc 99 [(.bool false), (.bool false), (.bool false), (.bool false), (.bool false), (.bool false), (.bool false), (.bool false), (.bool false), (.bool false), (.bool false), (.bool false), (.bool false), (.bool false), (.bool false), (.bool false), (.bool false), (.bool false), (.bool false), (.bool false), (.bool false), (.bool false), (.bool false), (.bool false), (.bool false), (.bool false), (.bool false), (.bool false), (.bool false), (.bool false), (.bool false), (.bool false), (.bool false), (.bool false), (.bool false), (.bool false), (.bool false), (.bool false), (.bool false), (.bool false), (.bool false), (.bool false), (.bool false), (.bool false), (.bool false), (.bool false), (.bool false), (.bool false), (.bool false), (.bool false), (.bool false), (.bool false), (.bool false), (.bool false), (.bool false), (.bool false), (.bool false), (.bool false), (.bool false), (.bool false), (.bool false), (.bool false), (.bool false), (.bool false), (.bool false), (.bool false), (.bool false), (.bool false), (.bool false), (.bool false), (.bool false), (.bool false), (.bool false), (.bool false), (.bool false), (.bool false), (.bool false), (.bool false), (.bool false), (.bool false), (.bool false), (.bool false), (.bool false), (.bool false), (.bool false), (.bool false), (.bool false), (.bool false), (.bool false), (.bool false), (.bool false), (.bool false), (.bool false), (.bool false), (.bool false), (.bool false), (.bool false), (.bool false), (.bool false), (.bool false), (.bool false), (.bool false), (.bool false), (.bool false), (.bool false), (.bool false), (.bool false), (.bool false), (.bool false), (.bool false), (.bool false), (.bool false), (.bool false), (.bool false), (.bool false), (.bool false), (.bool false), (.bool false), (.bool false), (.bool false), (.bool false), (.bool false), (.bool false), (.bool false), (.bool false), (.bool false), (.bool false), (.bool false), (.bool false), (.bool false), (.bool false), (.bool false), (.bool false), (.bool false), (.bool false), (.bool false), (.bool false), (.bool false), (.bool false), (.bool false), (.bool false), (.bool false), (.bool false), (.bool false), (.bool false), (.bool false), (.bool false), (.bool false), (.bool false), (.bool false), (.bool false), (.bool false), (.bool false), (.bool false), (.bool false), (.bool false), (.bool false), (.bool false), (.bool false), (.bool false), (.bool false), (.bool false), (.bool false), (.bool false), (.bool false), (.bool false), (.bool false), (.bool false), (.bool false), (.bool false), (.bool false), (.bool false), (.bool false), (.bool false), (.bool false), (.bool false), (.bool false), (.bool false), (.bool false), (.bool false), (.bool false), (.bool false), (.bool false), (.bool false), (.bool false), (.bool false), (.bool false), (.bool false), (.bool false), (.bool false), (.bool false), (.bool false), (.bool false), (.bool false), (.bool false), (.bool false), (.bool false), (.bool false), (.bool false), (.bool false), (.bool false), (.bool false), (.bool false), (.bool false), (.bool false), (.bool false), (.bool false), (.bool false), (.bool false), (.bool false), (.bool false), (.bool false), (.bool false), (.bool false), (.bool false), (.bool false), (.bool false), (.bool false), (.bool false), (.bool false), (.bool false), (.bool false), (.bool false), (.bool false), (.bool false), (.bool false), (.bool false), (.bool false), (.bool false), (.bool false), (.bool false), (.bool false), (.bool false), (.bool false), (.bool false), (.bool false), (.bool false), (.bool false), (.bool false), (.bool false), (.bool false), (.bool false), (.bool false), (.bool false), (.bool false), (.bool false), (.bool false), (.bool false), (.bool false), (.bool false), (.bool false), (.bool false), (.bool false), (.bool false), (.bool false), (.bool false)]))⟩, ⟨none, none, (.op (.store 256 (.t 5) (.t 29)))⟩, ⟨(some 6), none, (.op (.mov (.t 30)))⟩])
    (.seq (.reg [⟨(some 31), none, (.op (.mov (.t 6)))⟩])
    (.cond (.t 31) (.seq (.reg [⟨(some 32), none, (.op (.mov (.t 0)))⟩, ⟨(some 33), none, (.call 63 [(.t 32), (.t 5)])⟩, ⟨(some 4), none, (.op (.mov (.t 33)))⟩])
    .ret) .skip)))
    (.seq (.reg [⟨(some 34), none, (.op (.mov (.t 0)))⟩, ⟨(some 35), none, (.op (.mov (.t 1)))⟩, ⟨(some 36), none, (.call 64 [(.t 34), (.t 35)])⟩, ⟨(some 4), none, (.op (.mov (.t 36)))⟩])
    .ret))))),
    res := [(.t 4)] }

theorem cf_trimLeft : cfunc Go.Proofs.Tryz.prog 46 = some vf_trimLeft := by kernel_rfl

/-- indexByte -/
def vf_indexByte : VFunc :=
  { m := 8, code := (.seq (.reg [⟨(some 4), none, (.op (.mov (.c (.int .i64 0))))⟩])
    (.seq (.reg [⟨(some 5), none, (.op (.mov (.t 0)))⟩, ⟨(some 6), none, (.op (.mov (.t 1)))⟩, ⟨(some 7), none, (.call 56 [(.t 5), (.t 6)])⟩, ⟨(some 4), none, (.op (.mov (.t 7)))⟩])
    .ret)),
    res := [(.t 4)] }

theorem cf_indexByte : cfunc Go.Proofs.Tryz.prog 44 = some vf_indexByte := by kernel_rfl

/-- slIndexByte -/
def vf_slIndexByte : VFunc :=
  { m := 8, code := (.seq (.reg [⟨(some 4), none, (.op (.mov (.c (.int .i64 0))))⟩])
    (.seq (.reg [⟨(some 5), none, (.op (.mov (.t 0)))⟩, ⟨(some 6), none, (.op (.mov (.t 1)))⟩, ⟨(some 7), none, (.op (.ixB (.t 5) (.t 6)))⟩, ⟨(some 4), none, (.op (.mov (.t 7)))⟩])
    .ret)),
    res := [(.t 4)] }

theorem cf_slIndexByte : cfunc Go.Proofs.Tryz.prog 56 = some vf_slIndexByte := by kernel_rfl

/-- parseInt -/
def vf_parseInt : VFunc :=
  { m := 25, code := (.seq (.reg [⟨(some 6), none, (.op (.mov (.c (.int .i64 0))))⟩, ⟨(some 7), none, (.op (.mov (.c .nilI)))⟩])
    (.seq (.reg [⟨(some 10), none, (.op (.mov (.t 0)))⟩, ⟨(some 11), none, (.op (.mov (.t 1)))⟩, ⟨(some 12), none, (.op (.mov (.t 2)))⟩, ⟨(some 13), none, (.call 66 [(.t 10), (.t 11), (.t 12)])⟩, ⟨(some 9), none, (.op (.mov (.t 13)))⟩, ⟨(some 14), none, (.op (.ext (.t 9) 0))⟩, ⟨(some 15), none, (.op (.ext (.t 9) 1))⟩, ⟨(some 8), none, (.op (.mov (.t 14)))⟩, ⟨(some 7), none, (.op (.mov (.t 15)))⟩])
    (.seq (.seq (.reg [⟨(some 16), none, (.op (.mov (.t 7)))⟩, ⟨(some 17), none, (.op (.eqN .i true (.t 16) (.c .nilI)))⟩])
    (.cond (.t 17) (.seq (.reg [⟨(some 18), none, (.op (.mov (.t 8)))⟩, ⟨(some 19), none, (.op (.mov (.t 0)))⟩, ⟨(some 20), none, (.op (.mov (.t 1)))⟩, ⟨(some 21), none, (.op (.mov (.t 2)))⟩, ⟨(some 22), none, (.op (.mov (.t 7)))⟩, ⟨(some 23), none, (.call 67 [(.c (.str [80, 97, 114, 115, 101, 73, 110, 116])), (.t 19), (.t 20), (.t 21), (.t 22)])⟩, ⟨(some 6), none, (.op (.mov (.t 18)))⟩, ⟨(some 7), none, (.op (.mov (.t 23)))⟩])
    .ret) .skip))
    (.seq (.reg [⟨(some 24), none, (.op (.mov (.t 8)))⟩, ⟨(some 6), none, (.op (.mov (.t 24)))⟩, ⟨(some 7), none, (.op (.mov (.c .nilI)))⟩])
    .ret)))),
    res := [(.t 6), (.t 7)] }

theorem cf_parseInt : cfunc Go.Proofs.Tryz.prog 48 = some vf_parseInt := by kernel_rfl

/-- decodeRune -/
def vf_decodeRune : VFunc :=
  { m := 19, code := (.seq (.reg [⟨(some 2), none, (.op (.mov (.c (.int .i32 0))))⟩, ⟨(some 3), none, (.op (.mov (.c (.int .i64 0))))⟩])
    (.seq (.seq (.reg [⟨(some 4), none, (.op (.mov (.t 0)))⟩, ⟨(some 5), none, (.op (.bin .neq (.t 4) (.c (.str []))))⟩, ⟨(some 6), none, (.op (.mov (.t 5)))⟩, ⟨(some 7), (some (6, true)), (.op (.mov (.t 0)))⟩, ⟨(some 8), (some (6, true)), (.op (.idxS (.t 7) (.c (.int .i64 0))))⟩, ⟨(some 9), (some (6, true)), (.op (.bin .lss (.t 8) (.c (.int .u8 128))))⟩, ⟨(some 10), none, (.op (.pick (.t 6) (.t 9) (.c (.bool false))))⟩])
    (.cond (.t 10) (.seq (.reg [⟨(some 11), none, (.op (.mov (.t 0)))⟩, ⟨(some 12), none, (.op (.idxS (.t 11) (.c (.int .i64 0))))⟩, ⟨(some 13), none, (.op (.cvI .i32 (.t 12)))⟩, ⟨(some 2), none, (.op (.mov (.t 13)))⟩, ⟨(some 3), none, (.op (.mov (.c (.int .i64 1))))⟩])
    .ret) (.reg [⟨(some 15), none, (.op (.mov (.t 0)))⟩, ⟨(some 16), none, (.call 83 [(.t 15)])⟩, ⟨(some 14), none, (.op (.mov (.t 16)))⟩, ⟨(some 17), none, (.op (.ext (.t 14) 0))⟩, ⟨(some 18), none, (.op (.ext (.t 14) 1))⟩, ⟨(some 2), none, (.op (.mov (.t 17)))⟩, ⟨(some 3), none, (.op (.mov (.t 18)))⟩])))
    .ret)),
    res := [(.t 2), (.t 3)] }

theorem cf_decodeRune : cfunc Go.Proofs.Tryz.prog 71 = some vf_decodeRune := by kernel_rfl

/-- decodeRuneSlow -/
def vf_decodeRuneSlow : VFunc :=
  { m := 117, code := (.seq (.reg [⟨(some 2), none, (.op (.mov (.c (.int .i32 0))))⟩, ⟨(some 3), none, (.op (.mov (.c (.int .i64 0))))⟩])
    (.seq (.reg [⟨(some 13), none, (.op (.mov (.t 0)))⟩, ⟨(some 14), none, (.op (.lenS (.t 13)))⟩, ⟨(some 4), none, (.op (.mov (.t 14)))⟩])
    (.seq (.seq (.reg [⟨(some 15), none, (.op (.mov (.t 4)))⟩, ⟨(some 16), none, (.op (.bin .lss (.t 15) (.c (.int .i64 1))))⟩])
    (.cond (.t 16) (.seq (.reg [⟨(some 2), none, (.op (.mov (.c (.int .i32 65533))))⟩, ⟨(some 3), none, (.op (.mov (.c (.int .i64 0))))⟩])
    .ret) .skip))
    (.seq (.reg [⟨(some 17), none, (.op (.mov (.t 0)))⟩, ⟨(some 18), none, (.op (.idxS (.t 17) (.c (.int .i64 0))))⟩, ⟨(some 5), none, (.op (.mov (.t 18)))⟩])
    (.seq (.reg [⟨(some 19), none, (.op (.mov (.t 5)))⟩, ⟨(some 20), none, (.op (.iadA 256 1 (.c (.gref 4 0)) (.t 19)))⟩, ⟨(some 21), none, (.op (.loadL (.t 20)))⟩, ⟨(some 6), none, (.op (.mov (.t 21)))⟩])
    (.seq (.seq (.reg [⟨(some 22), none, (.op (.mov (.t 6)))⟩, ⟨(some 23), none, (.op (.bin .geq (.t 22) (.c (.int .u8 240))))⟩])
    (.cond (.t 23) (.seq (.reg [⟨(some 24), none, (.op (.mov (.t 6)))⟩, ⟨(some 25), none, (.op (.cvI .i32 (.t 24)))⟩, ⟨(some 26), none, (.op (.bin .shl (.t 25) (.c (.int .u64 31))))⟩, ⟨(some 27), none, (.op (.bin .shr (.t 26) (.c (.int .u64 31))))⟩, ⟨(some 7), none, (.op (.mov (.t 27)))⟩])
    (.seq (.reg [⟨(some 28), none, (.op (.mov (.t 0)))⟩, ⟨(some 29), none, (.op (.idxS (.t 28) (.c (.int .i64 0))))⟩, ⟨(some 30), none, (.op (.cvI .i32 (.t 29)))⟩, ⟨(some 31), none, (.op (.mov (.t 7)))⟩, ⟨(some 32), none, (.op (.bin .andNot (.t 30) (.t 31)))⟩, ⟨(some 33), none, (.op (.mov (.t 7)))⟩, ⟨(some 34), none, (.op (.bin .and (.c (.int .i32 65533)) (.t 33)))⟩, ⟨(some 35), none, (.op (.bin .or (.t 32) (.t 34)))⟩, ⟨(some 2), none, (.op (.mov (.t 35)))⟩, ⟨(some 3), none, (.op (.mov (.c (.int .i64 1))))⟩])
    .ret)) .skip))
    (.seq (.reg [⟨(some 36), none, (.op (.mov (.t 6)))⟩, ⟨(some 37), none, (.op (.bin .and (.t 36) (.c (.int .u8 7))))⟩, ⟨(some 38), none, (.op (.cvI .i64 (.t 37)))⟩, ⟨(some 8), none, (.op (.mov (.t 38)))⟩])
    (.seq (.reg [⟨(some 39), none, (.op (.mov (.t 6)))⟩, ⟨(some 40), none, (.op (.bin .shr (.t 39) (.c (.int .u64 4))))⟩, ⟨(some 41), none, (.op (.iadA 16 2 (.c (.gref 5 0)) (.t 40)))⟩, ⟨(some 42), none, (.op (.loadA 2 (.t 41)))⟩, ⟨(some 9), none, (.op (.alloc 131 [(.int .u8 0), (.int .u8 0)]))⟩, ⟨none, none, (.op (.store 2 (.t 9) (.t 42)))⟩])
    (.seq (.seq (.reg [⟨(some 43), none, (.op (.mov (.t 4)))⟩, ⟨(some 44), none, (.op (.mov (.t 8)))⟩, ⟨(some 45), none, (.op (.bin .lss (.t 43) (.t 44)))⟩])
    (.cond (.t 45) (.seq (.reg [⟨(some 2), none, (.op (.mov (.c (.int .i32 65533))))⟩, ⟨(some 3), none, (.op (.mov (.c (.int .i64 1))))⟩])
    .ret) .skip))
    (.seq (.reg [⟨(some 46), none, (.op (.mov (.t 0)))⟩, ⟨(some 47), none, (.op (.idxS (.t 46) (.c (.int .i64 1))))⟩, ⟨(some 10), none, (.op (.mov (.t 47)))⟩])
    (.seq (.seq (.reg [⟨(some 48), none, (.op (.mov (.t 10)))⟩, ⟨(some 49), none, (.op (.fadr 0 (.t 9)))⟩, ⟨(some 50), none, (.op (.loadL (.t 49)))⟩, ⟨(some 51), none, (.op (.bin .lss (.t 48) (.t 50)))⟩, ⟨(some 52), none, (.op (.mov (.t 51)))⟩, ⟨(some 53), (some (52, false)), (.op (.fadr 1 (.t 9)))⟩, ⟨(some 54), (some (52, false)), (.op (.loadL (.t 53)))⟩, ⟨(some 55), (some (52, false)), (.op (.mov (.t 10)))⟩, ⟨(some 56), (some (52, false)), (.op (.bin .lss (.t 54) (.t 55)))⟩, ⟨(some 57), none, (.op (.pick (.t 52) (.c (.bool true)) (.t 56)))⟩])
    (.cond (.t 57) (.seq (.reg [⟨(some 2), none, (.op (.mov (.c (.int .i32 65533))))⟩, ⟨(some 3), none, (.op (.mov (.c (.int .i64 1))))⟩])
    .ret) .skip))
    (.seq (.seq (.reg [⟨(some 58), none, (.op (.mov (.t 8)))⟩, ⟨(some 59), none, (.op (.bin .leq (.t 58) (.c (.int .i64 2))))⟩])
    (.cond (.t 59) (.seq (.reg [⟨(some 60), none, (.op (.mov (.t 5)))⟩, ⟨(some 61), none, (.op (.bin .and (.t 60) (.c (.int .u8 31))))⟩, ⟨(some 62), none, (.op (.cvI .i32 (.t 61)))⟩, ⟨(some 63), none, (.op (.bin .shl (.t 62) (.c (.int .u64 6))))⟩, ⟨(some 64), none, (.op (.mov (.t 10)))⟩, ⟨(some 65), none, (.op (.bin .and (.t 64) (.c (.int .u8 63))))⟩, ⟨(some 66), none, (.op (.cvI .i32 (.t 65)))⟩, ⟨(some 67), none, (.op (.bin .or (.t 63) (.t 66)))⟩, ⟨(some 2), none, (.op (.mov (.t 67)))⟩, ⟨(some 3), none, (.op (.mov (.c (.int .i64 2))))⟩])
    .ret) .skip))
    (.seq (.reg [⟨(some 68), none, (.op (.mov (.t 0)))⟩, ⟨(some 69), none, (.op (.idxS (.t 68) (.c (.int .i64 2))))⟩, ⟨(some 11), none, (.op (.mov (.t 69)))⟩])
    (.seq (.seq (.reg [⟨(some 70), none, (.op (.mov (.t 11)))⟩, ⟨(some 71), none, (.op (.bin .lss (.t 70) (.c (.int .u8 128))))⟩, ⟨(some 72), none, (.op (.mov (.t 71)))⟩, ⟨(some 73), (some (72, false)), (.op (.mov (.t 11)))⟩, ⟨(some 74), (some (72, false)), (.op (.bin .lss (.c (.int .u8 191)) (.t 73)))⟩, ⟨(some 75), none, (.op (.pick (.t 72) (.c (.bool true)) (.t 74)))⟩])
    (.cond (.t 75) (.seq (.reg [⟨(some 2), none, (.op (.mov (.c (.int .i32 65533))))⟩, ⟨(some 3), none, (.op (.mov (.c (.int .i64 1))))⟩])
    .ret) .skip))
    (.seq (.seq (.reg [⟨(some 76), none, (.op (.mov (.t 8)))⟩, ⟨(some 77), none, (.op (.bin .leq (.t 76) (.c (.int .i64 3))))⟩])
    (.cond (.t 77) (.seq (.reg [⟨(some 78), none, (.op (.mov (.t 5)))⟩, ⟨(some 79), none, (.op (.bin .and (.t 78) (.c (.int .u8 15))))⟩, ⟨(some 80), none, (.op (.cvI .i32 (.t 79)))⟩, ⟨(some 81), none, (.op (.bin .shl (.t 80) (.c (.int .u64 12))))⟩, ⟨(some 82), none, (.op (.mov (.t 10)))⟩, ⟨(some 83), none, (.op (.bin .and (.t 82) (.c (.int .u8 63))))⟩, ⟨(some 84), none, (.op (.cvI .i32 (.t 83)))⟩, ⟨(some 85), none, (.op (.bin .shl (.t 84) (.c (.int .u64 6))))⟩, ⟨(some 86), none, (.op (.bin .or (.t 81) (.t 85)))⟩, ⟨(some 87), none, (.op (.mov (.t 11)))⟩, ⟨(some 88), none, (.op (.bin .and (.t 87) (.c (.int .u8 63))))⟩, ⟨(some 89), none, (.op (.cvI .i32 (.t 88)))⟩, ⟨(some 90), none, (.op (.bin .or (.t 86) (.t 89)))⟩, ⟨(some 2), none, (.op (.mov (.t 90)))⟩, ⟨(some 3), none, (.op (.mov (.c (.int .i64 3))))⟩])
    .ret) .skip))
    (.seq (.reg [⟨(some 91), none, (.op (.mov (.t 0)))⟩, ⟨(some 92), none, (.op (.idxS (.t 91) (.c (.int .i64 3))))⟩, ⟨(some 12), none, (.op (.mov (.t 92)))⟩])
    (.seq (.seq (.reg [⟨(some 93), none, (.op (.mov (.t 12)))⟩, ⟨(some 94), none, (.op (.bin .lss (.t 93) (.c (.int .u8 128))))⟩, ⟨(some 95), none, (.op (.mov (.t 94)))⟩, ⟨(some 96), (some (95, false)), (.op (.mov (.t 12)))⟩, ⟨(some 97), (some (95, false)), (.op (.bin .lss (.c (.int .u8 191)) (.t 96)))⟩, ⟨(some 98), none, (.op (.pick (.t 95) (.c (.bool true)) (.t 97)))⟩])
    (.cond (.t 98) (.seq (.reg [⟨(some 2), none, (.op (.mov (.c (.int .i32 65533))))⟩, ⟨(some 3), none, (.op (.mov (.c (.int .i64 1))))⟩])
    .ret) .skip))
    (.seq (.reg [⟨(some 99), none, (.op (.mov (.t 5)))⟩, ⟨(some 100), none, (.op (.bin .and (.t 99) (.c (.int .u8 7))))⟩, ⟨(some 101), none, (.op (.cvI .i32 (.t 100)))⟩, ⟨(some 102), none, (.op (.bin .shl (.t 101) (.c (.int .u64 18))))⟩, ⟨(some 103), none, (.op (.mov (.t 10)))⟩, ⟨(some 104), none, (.op (.bin .and (.t 103) (.c (.int .u8 63))))⟩, ⟨(some 105), none, (.op (.cvI .i32 (.t 104)))⟩, ⟨(some 106), none, (.op (.bin .shl (.t 105) (.c (.int .u64 12))))⟩, ⟨(some 107), none, (.op (.bin .or (.t 102) (.t 106)))⟩, ⟨(some 108), none, (.op (.mov (.t 11)))⟩, ⟨(some 109), none, (.op (.bin .and (.t 108) (.c (.int .u8 63))))⟩, ⟨(some 110), none, (.op (.cvI .i32 (.t 109)))⟩, ⟨(some 111), none, (.op (.bin .shl (.t 110) (.c (.int .u64 6))))⟩, ⟨(some 112), none, (.op (.bin .or (.t 107) (.t 111)))⟩, ⟨(some 113), none, (.op (.mov (.t 12)))⟩, ⟨(some 114), none, (.op (.bin .and (.t 113) (.c (.int .u8 63))))⟩, ⟨(some 115), none, (.op (.cvI .i32 (.t 114)))⟩, ⟨(some 116), none, (.op (.bin .or (.t 112) (.t 115)))⟩, ⟨(some 2), none, (.op (.mov (.t 116)))⟩, ⟨(some 3), none, (.op (.mov (.c (.int .i64 4))))⟩])
    .ret)))))))))))))))))),
    res := [(.t 2), (.t 3)] }

theorem cf_decodeRuneSlow : cfunc Go.Proofs.Tryz.prog 83 = some vf_decodeRuneSlow := by kernel_rfl

/-- bWriteRune -/
def vf_bWriteRune : VFunc :=
  { m := 30, code := (.seq (.reg [⟨(some 4), none, (.op (.mov (.c (.int .i64 0))))⟩, ⟨(some 5), none, (.op (.mov (.c .nilI)))⟩])
    (.seq (.reg [⟨(some 7), none, (.op (.mov (.t 0)))⟩, ⟨(some 8), none, (.call 73 [(.t 7)])⟩])
    (.seq (.reg [⟨(some 9), none, (.op (.mov (.t 0)))⟩, ⟨(some 10), none, (.op (.nilck (.t 9)))⟩, ⟨(some 11), none, (.op (.fadr 1 (.t 10)))⟩, ⟨(some 12), none, (.op (.loadL (.t 11)))⟩, ⟨(some 13), none, (.op (.lenV (.t 12)))⟩, ⟨(some 6), none, (.op (.mov (.t 13)))⟩])
    (.seq (.reg [⟨(some 14), none, (.op (.mov (.t 0)))⟩, ⟨(some 15), none, (.op (.mov (.t 0)))⟩, ⟨(some 16), none, (.op (.nilck (.t 15)))⟩, ⟨(some 17), none, (.op (.fadr 1 (.t 16)))⟩, ⟨(some 18), none, (.op (.loadL (.t 17)))⟩, ⟨(some 19), none, (.op (.mov (.t 1)))⟩, ⟨(some 20), none, (.call 74 [(.t 18), (.t 19)])⟩, ⟨(some 21), none, (.op (.nilck (.t 14)))⟩, ⟨(some 22), none, (.op (.fadr 1 (.t 21)))⟩, ⟨none, none, (.op (.store 1 (.t 22) (.t 20)))⟩])
    (.seq (.reg [⟨(some 23), none, (.op (.mov (.t 0)))⟩, ⟨(some 24), none, (.op (.nilck (.t 23)))⟩, ⟨(some 25), none, (.op (.fadr 1 (.t 24)))⟩, ⟨(some 26), none, (.op (.loadL (.t 25)))⟩, ⟨(some 27), none, (.op (.lenV (.t 26)))⟩, ⟨(some 28), none, (.op (.mov (.t 6)))⟩, ⟨(some 29), none, (.op (.bin .sub (.t 27) (.t 28)))⟩, ⟨(some 4), none, (.op (.mov (.t 29)))⟩, ⟨(some 5), none, (.op (.mov (.c .nilI)))⟩])
    .ret))))),
    res := [(.t 4), (.t 5)] }

theorem cf_bWriteRune : cfunc Go.Proofs.Tryz.prog 60 = some vf_bWriteRune := by kernel_rfl

/-- bString -/
def vf_bString : VFunc :=
  { m := 14, code := (.seq (.reg [⟨(some 2), none, (.op (.mov (.c (.str []))))⟩])
    (.seq (.draw [⟨⟨(some 3), none, (.op (.mov (.t 0)))⟩, none⟩, ⟨⟨(some 4), none, (.op (.nilck (.t 3)))⟩, none⟩, ⟨⟨(some 5), none, (.op (.fadr 1 (.t 4)))⟩, none⟩, ⟨⟨(some 6), none, (.op (.loadL (.t 5)))⟩, none⟩, ⟨⟨(some 7), none, (.op (.usd (.t 6)))⟩, none⟩, ⟨⟨(some 8), none, (.op (.mov (.t 0)))⟩, none⟩, ⟨⟨(some 9), none, (.op (.nilck (.t 8)))⟩, none⟩, ⟨⟨(some 10), none, (.op (.fadr 1 (.t 9)))⟩, none⟩, ⟨⟨(some 11), none, (.op (.loadL (.t 10)))⟩, none⟩, ⟨⟨(some 12), none, (.op (.lenV (.t 11)))⟩, none⟩, ⟨⟨(some 13), none, (.op (.ustr 5 (.t 7) (.t 12)))⟩, none⟩, ⟨⟨(some 2), none, (.op (.mov (.t 13)))⟩, none⟩])
    .ret)),
    res := [(.t 2)] }

theorem cf_bString : cfunc Go.Proofs.Tryz.prog 58 = some vf_bString := by kernel_rfl

/-- bCopyCheck -/
def vf_bCopyCheck : VFunc :=
  { m := 20, code := (.seq (.reg [⟨(some 2), none, (.op (.mov (.t 0)))⟩, ⟨(some 3), none, (.op (.nilck (.t 2)))⟩, ⟨(some 4), none, (.op (.fadr 0 (.t 3)))⟩, ⟨(some 5), none, (.op (.loadL (.t 4)))⟩, ⟨(some 6), none, (.op (.eqN .p false (.t 5) (.c (.ref none))))⟩])
    (.cond (.t 6) (.reg [⟨(some 7), none, (.op (.mov (.t 0)))⟩, ⟨(some 8), none, (.op (.mov (.t 0)))⟩, ⟨(some 9), none, (.op (.cvUP (.t 8)))⟩, ⟨(some 10), none, (.op (.mov (.t 9)))⟩, ⟨(some 11), none, (.op (.cvPU 91 2 (.t 10)))⟩, ⟨(some 12), none, (.op (.nilck (.t 7)))⟩, ⟨(some 13), none, (.op (.fadr 0 (.t 12)))⟩, ⟨none, none, (.op (.store 1 (.t 13) (.t 11)))⟩]) (.seq (.reg [⟨(some 14), none, (.op (.mov (.t 0)))⟩, ⟨(some 15), none, (.op (.nilck (.t 14)))⟩, ⟨(some 16), none, (.op (.fadr 0 (.t 15)))⟩, ⟨(some 17), none, (.op (.loadL (.t 16)))⟩, ⟨(some 18), none, (.op (.mov (.t 0)))⟩, ⟨(some 19), none, (.op (.eqP true (.t 17) (.t 18)))⟩])
    (.cond (.t 19) .stop .skip)))),
    res := [] }

theorem cf_bCopyCheck : cfunc Go.Proofs.Tryz.prog 73 = some vf_bCopyCheck := by kernel_rfl

/-- appendRune -/
def vf_appendRune : VFunc :=
  { m := 16, code := (.seq (.reg [⟨(some 4), none, (.op (.mov (.c (.slc false [] .no))))⟩])
    (.seq (.seq (.reg [⟨(some 5), none, (.op (.mov (.t 1)))⟩, ⟨(some 6), none, (.op (.cvI .u32 (.t 5)))⟩, ⟨(some 7), none, (.op (.bin .leq (.t 6) (.c (.int .u32 127))))⟩])
    (.cond (.t 7) (.seq (.reg [⟨(some 8), none, (.op (.mov (.t 0)))⟩, ⟨(some 9), none, (.op (.mov (.t 1)))⟩, ⟨(some 10), none, (.op (.cvI .u8 (.t 9)))⟩, ⟨(some 11), none, (.op (.bslc 1 [(.t 10)]))⟩, ⟨(some 12), none, (.op (.app 5 1 [(.int .u8 0)] (.t 8) (.t 11)))⟩, ⟨(some 4), none, (.op (.mov (.t 12)))⟩])
    .ret) .skip))
    (.seq (.reg [⟨(some 13), none, (.op (.mov (.t 0)))⟩, ⟨(some 14), none, (.op (.mov (.t 1)))⟩, ⟨(some 15), none, (.call 85 [(.t 13), (.t 14)])⟩, ⟨(some 4), none, (.op (.mov (.t 15)))⟩])
    .ret))),
    res := [(.t 4)] }

theorem cf_appendRune : cfunc Go.Proofs.Tryz.prog 74 = some vf_appendRune := by kernel_rfl

/-- appendRuneNA -/
def vf_appendRuneNA : VFunc :=
  { m := 78, code := (.seq (.reg [⟨(some 4), none, (.op (.mov (.c (.slc false [] .no))))⟩])
    (.seq (.reg [⟨(some 6), none, (.op (.mov (.t 1)))⟩, ⟨(some 7), none, (.op (.cvI .u32 (.t 6)))⟩, ⟨(some 5), none, (.op (.mov (.t 7)))⟩])
    (.block 0 (.seq (.reg [⟨(some 12), none, (.op (.mov (.t 5)))⟩, ⟨(some 13), none, (.op (.bin .leq (.t 12) (.c (.int .u32 2047))))⟩, ⟨(some 11), none, (.op (.mov (.t 13)))⟩])
    (.cond (.t 11) (.seq (.reg [⟨(some 14), none, (.op (.mov (.t 0)))⟩, ⟨(some 15), none, (.op (.mov (.t 1)))⟩, ⟨(some 16), none, (.op (.bin .shr (.t 15) (.c (.int .u64 6))))⟩, ⟨(some 17), none, (.op (.cvI .u8 (.t 16)))⟩, ⟨(some 18), none, (.op (.bin .or (.c (.int .u8 192)) (.t 17)))⟩, ⟨(some 19), none, (.op (.mov (.t 1)))⟩, ⟨(some 20), none, (.op (.cvI .u8 (.t 19)))⟩, ⟨(some 21), none, (.op (.bin .and (.t 20) (.c (.int .u8 63))))⟩, ⟨(some 22), none, (.op (.bin .or (.c (.int .u8 128)) (.t 21)))⟩, ⟨(some 23), none, (.op (.bslc 1 [(.t 18), (.t 22)]))⟩, ⟨(some 24), none, (.op (.app 5 1 [(.int .u8 0)] (.t 14) (.t 23)))⟩, ⟨(some 4), none, (.op (.mov (.t 24)))⟩])
    .ret) (.seq (.seq (.reg [⟨(some 26), none, (.op (.mov (.t 5)))⟩, ⟨(some 27), none, (.op (.bin .lss (.t 26) (.c (.int .u32 55296))))⟩, ⟨(some 25), none, (.op (.mov (.t 27)))⟩])
    (.cond (.t 25) .skip (.reg [⟨(some 28), none, (.op (.mov (.t 5)))⟩, ⟨(some 29), none, (.op (.bin .lss (.c (.int .u32 57343)) (.t 28)))⟩, ⟨(some 30), none, (.op (.mov (.t 29)))⟩, ⟨(some 31), (some (30, true)), (.op (.mov (.t 5)))⟩, ⟨(some 32), (some (30, true)), (.op (.bin .leq (.t 31) (.c (.int .u32 65535))))⟩, ⟨(some 33), none, (.op (.pick (.t 30) (.t 32) (.c (.bool false))))⟩, ⟨(some 25), none, (.op (.mov (.t 33)))⟩])))
    (.cond (.t 25) (.seq (.reg [⟨(some 34), none, (.op (.mov (.t 0)))⟩, ⟨(some 35), none, (.op (.mov (.t 1)))⟩, ⟨(some 36), none, (.op (.bin .shr (.t 35) (.c (.int .u64 12))))⟩, ⟨(some 37), none, (.op (.cvI .u8 (.t 36)))⟩, ⟨(some 38), none, (.op (.bin .or (.c (.int .u8 224)) (.t 37)))⟩, ⟨(some 39), none, (.op (.mov (.t 1)))⟩, ⟨(some 40), none, (.op (.bin .shr (.t 39) (.c (.int .u64 6))))⟩, ⟨(some 41), none, (.op (.cvI .u8 (.t 40)))⟩, ⟨(some 42), none, (.op (.bin .and (.t 41) (.c (.int .u8 63))))⟩, ⟨(some 43), none, (.op (.bin .or (.c (.int .u8 128)) (.t 42)))⟩, ⟨(some 44), none, (.op (.mov (.t 1)))⟩, ⟨(some 45), none, (.op (.cvI .u8 (.t 44)))⟩, ⟨(some 46), none, (.op (.bin .and (.t 45) (.c (.int .u8 63))))⟩, ⟨(some 47), none, (.op (.bin .or (.c (.int .u8 128)) (.t 46)))⟩, ⟨(some 48), none, (.op (.bslc 1 [(.t 38), (.t 43), (.t 47)]))⟩, ⟨(some 49), none, (.op (.app 5 1 [(.int .u8 0)] (.t 34) (.t 48)))⟩, ⟨(some 4), none, (.op (.mov (.t 49)))⟩])
    .ret) (.seq (.reg [⟨(some 51), none, (.op (.mov (.t 5)))⟩, ⟨(some 52), none, (.op (.bin .gtr (.t 51) (.c (.int .u32 65535))))⟩, ⟨(some 53), none, (.op (.mov (.t 52)))⟩, ⟨(some 54), (some (53, true)), (.op (.mov (.t 5)))⟩, ⟨(some 55), (some (53, true)), (.op (.bin .leq (.t 54) (.c (.int .u32 1114111))))⟩, ⟨(some 56), none, (.op (.pick (.t 53) (.t 55) (.c (.bool false))))⟩, ⟨(some 50), none, (.op (.mov (.t 56)))⟩])
    (.cond (.t 50) (.seq (.reg [⟨(some 57), none, (.op (.mov (.t 0)))⟩, ⟨(some 58), none, (.op (.mov (.t 1)))⟩, ⟨(some 59), none, (.op (.bin .shr (.t 58) (.c (.int .u64 18))))⟩, ⟨(some 60), none, (.op (.cvI .u8 (.t 59)))⟩, ⟨(some 61), none, (.op (.bin .or (.c (.int .u8 240)) (.t 60)))⟩, ⟨(some 62), none, (.op (.mov (.t 1)))⟩, ⟨(some 63), none, (.op (.bin .shr (.t 62) (.c (.int .u64 12))))⟩, ⟨(some 64), none, (.op (.cvI .u8 (.t 63)))⟩, ⟨(some 65), none, (.op (.bin .and (.t 64) (.c (.int .u8 63))))⟩, ⟨(some 66), none, (.op (.bin .or (.c (.int .u8 128)) (.t 65)))⟩, ⟨(some 67), none, (.op (.mov (.t 1)))⟩, ⟨(some 68), none, (.op (.bin .shr (.t 67) (.c (.int .u64 6))))⟩, ⟨(some 69), none, (.op (.cvI .u8 (.t 68)))⟩, ⟨(some 70), none, (.op (.bin .and (.t 69) (.c (.int .u8 63))))⟩, ⟨(some 71), none, (.op (.bin .or (.c (.int .u8 128)) (.t 70)))⟩, ⟨(some 72), none, (.op (.mov (.t 1)))⟩, ⟨(some 73), none, (.op (.cvI .u8 (.t 72)))⟩, ⟨(some 74), none, (.op (.bin .and (.t 73) (.c (.int .u8 63))))⟩, ⟨(some 75), none, (.op (.bin .or (.c (.int .u8 128)) (.t 74)))⟩, ⟨(some 76), none, (.op (.bslc 1 [(.t 61), (.t 66), (.t 71), (.t 75)]))⟩, ⟨(some 77), none, (.op (.app 5 1 [(.int .u8 0)] (.t 57) (.t 76)))⟩, ⟨(some 4), none, (.op (.mov (.t 77)))⟩])
    .ret) (.seq (.reg [⟨(some 8), none, (.op (.mov (.t 0)))⟩, ⟨(some 9), none, (.op (.bslc 1 [(.c (.int .u8 239)), (.c (.int .u8 191)), (.c (.int .u8 189))]))⟩, ⟨(some 10), none, (.op (.app 5 1 [(.int .u8 0)] (.t 8) (.t 9)))⟩, ⟨(some 4), none, (.op (.mov (.t 10)))⟩])
    .ret)))))))))),
    res := [(.t 4)] }

theorem cf_appendRuneNA : cfunc Go.Proofs.Tryz.prog 85 = some vf_appendRuneNA := by kernel_rfl

end Go.Proofs.YtgdcdkgmeomhpaaGreatDoor

namespace Go.Proofs.YtgdcdkgmeomhpaaGreatDoor
open Go Go.Vs

/-- Byte cells. -/
def cells8 (l : List Nat) : List V := l.map fun (n : Nat) => V.int .u8 (n : Int)
def lettersN : List Nat := [98, 8, 102, 12, 110, 10, 114, 13, 116, 9]
def firstN : List Nat := List.replicate 128 240 ++ List.replicate 66 241 ++ List.replicate 30 2 ++ [19] ++ List.replicate 12 3 ++ [35, 3, 3, 52, 4, 4, 4, 68] ++ List.replicate 11 241
def acceptN : List Nat := [128, 191, 160, 191, 128, 159, 144, 191, 128, 143] ++ List.replicate 22 0
/-- The package-level variables that are listed, with what they hold. -/
def Gs : List (Nat × List V) := [(0, cells8 lettersN), (4, cells8 firstN), (5, cells8 acceptN), (2, [.iface 136 (.eptr [])]), (3, [.iface 136 (.eptr [])])]
noncomputable def Xc : Ctx := ⟨Go.Proofs.Tryz.prog, Gs⟩
theorem XG : Xc.G = Gs := rfl
theorem XP : Xc.P = Go.Proofs.Tryz.prog := rfl
theorem hmix : Xc.P.follows .mixedOrders = true := by rw [XP]; kernel_rfl

/-- A function by its body, at this seat. -/
theorem body {f : FuncId} {vf : VFunc} (hf : cfunc Go.Proofs.Tryz.prog f = some vf) {args : List V} {σ : St} {Q : Out → St → Prop} (hlen : Nat.ble args.length vf.m = true)
    (h : W Xc vf.code (FinK Xc vf.res σ Q) (args0 args) σ) : C Xc f args σ Q := C_body hmix (by rw [XP]; exact hf) hlen h

def spB (c : Nat) : Bool := c == 32 || c == 9 || c == 10 || c == 13

theorem isSpace_C {c : UInt8} {σ : St} {Q : Out → St → Prop} (h : Q (.ret (.bool (spB c.toNat))) σ) : C Xc 35 [.int .u8 (c.toNat : Int)] σ Q := by
  refine body cf_isSpace (Eq.refl true) ?_
  simp -implicitDefEqProofs only [vf_isSpace, wset, tailW, tailEnd, isLenV, isOneV, vop, vbin, vbinI, vun, ↓reduceIte, Nat.reduceEqDiff, Nat.reduceAdd, vcells, vcut, cutSK, cutVK, cutNK, fillV, spl, Nat.reduceLeDiff, V.isNil, bne_self_eq_false]
  refine chooseK_split (fun h1 => ?_) (fun h1 => ?_) <;> simp -implicitDefEqProofs only [h1, wset, tailW, tailEnd, isLenV, isOneV, vop, vbin, vbinI, vun, ↓reduceIte, Nat.reduceEqDiff, Nat.reduceAdd, vcells, vcut, cutSK, cutVK, cutNK, fillV, spl, Nat.reduceLeDiff, V.isNil, bne_self_eq_false]
  · refine .inl ?_
    have : spB c.toNat = true := by simp at h1; simp [spB]; omega
    rwa [this] at h
  refine chooseK_split (fun h2 => ?_) (fun h2 => ?_) <;> simp -implicitDefEqProofs only [h2, wset, tailW, tailEnd, isLenV, isOneV, vop, vbin, vbinI, vun, ↓reduceIte, Nat.reduceEqDiff, Nat.reduceAdd, vcells, vcut, cutSK, cutVK, cutNK, fillV, spl, Nat.reduceLeDiff, V.isNil, bne_self_eq_false]
  · refine .inl ?_
    have : spB c.toNat = true := by simp at h2; simp [spB]; omega
    rwa [this] at h
  refine chooseK_split (fun h3 => ?_) (fun h3 => ?_) <;> simp -implicitDefEqProofs only [h3, wset, tailW, tailEnd, isLenV, isOneV, vop, vbin, vbinI, vun, ↓reduceIte, Nat.reduceEqDiff, Nat.reduceAdd, vcells, vcut, cutSK, cutVK, cutNK, fillV, spl, Nat.reduceLeDiff, V.isNil, bne_self_eq_false]
  · refine .inl ?_
    have : spB c.toNat = true := by simp at h3; simp [spB]; omega
    rwa [this] at h
  refine .inl ?_
  have : ((c.toNat : Int) == 13) = spB c.toNat := by
    rw [Bool.eq_iff_iff]; simp at h1 h2 h3; simp [spB]; omega
  rwa [this]

/-- The parser's three cells. -/
abbrev psr (s : List UInt8) (i d : Nat) : List V := [.str s, .int .i64 i, .int .i64 d]

theorem wrap64 {n : Int} (h : -9223372036854775808 ≤ n ∧ n ≤ 9223372036854775807) : IntKind.wrap .i64 n = n := by
  simp only [IntKind.wrap, IntKind.bits, IntKind.signed, Bool.true_and]
  split <;> simp_all <;> omega

theorem wrong_C {s : List UInt8} {i d p : Nat} {σ : St} {Q : Out → St → Prop} (hp : σ.objs[p]? = some (psr s i d)) (h : Q (.pan (.iface 45 (.agg [.int .i64 i, .int .i64 (if i = s.length then 8 else 7)]))) σ) :
    C Xc 34 [.ref (some (p, 0))] σ Q := by
  refine body cf_wrong (Eq.refl true) ?_
  simp -implicitDefEqProofs only [vf_wrong, hp, wset, tailW, tailEnd, isLenV, isOneV, vop, vbin, vbinI, vun, ↓reduceIte, Nat.reduceEqDiff, Nat.reduceAdd, vcells, vcut, cutSK, cutVK, cutNK, fillV, spl, Nat.reduceLeDiff, V.isNil, bne_self_eq_false]
  refine chooseK_split (fun h1 => ?_) (fun h1 => ?_) <;> simp -implicitDefEqProofs only [h1, hp, wset, tailW, tailEnd, isLenV, isOneV, vop, vbin, vbinI, vun, ↓reduceIte, Nat.reduceEqDiff, Nat.reduceAdd, vcells, vcut, cutSK, cutVK, cutNK, fillV, spl, Nat.reduceLeDiff, V.isNil, bne_self_eq_false]
  · have : i = s.length := by simp at h1; omega
    rw [if_pos this] at h
    exact .inl h
  · have : ¬ i = s.length := by simp at h1; omega
    rw [if_neg this] at h
    exact .inl h

/-- Behind white space. -/
def skipSp (s : List UInt8) (i : Nat) : Nat := i + ((s.drop i).takeWhile fun c => spB c.toNat).length

theorem skipSp_step {s : List UInt8} {i : Nat} (h : i < s.length) : skipSp s i = if spB (s.getD i 0).toNat then skipSp s (i + 1) else i := by
  unfold skipSp
  rw [List.drop_eq_getElem_cons h, List.takeWhile_cons]
  have e : s.getD i 0 = s[i] := by simp [List.getD_eq_getElem?_getD, List.getElem?_eq_getElem h]
  rw [e]
  split <;> simp; omega
theorem skipSp_end (s : List UInt8) : skipSp s s.length = s.length := by simp [skipSp]

theorem set_get {α : Type} {l : List α} {p : Nat} {x y : α} (h : l[p]? = some x) : (l.set p y)[p]? = some y := by
  rw [List.getElem?_set_self (List.getElem?_eq_some_iff.1 h).1]
theorem set_same {α : Type} {l : List α} {p : Nat} {x : α} (h : l[p]? = some x) : l.set p x = l := by
  apply List.ext_getElem?
  intro i
  by_cases e : p = i
  · subst e; rw [set_get h, h]
  · rw [List.getElem?_set_ne e]

theorem spaces_C {s : List UInt8} {i d p : Nat} {σ : St} {Q : Out → St → Prop} (hp : σ.objs[p]? = some (psr s i d)) (hi : i ≤ s.length) (hs : s.length ≤ big)
    (h : Q (.ret .und) { σ with objs := σ.objs.set p (psr s (skipSp s i) d) }) : C Xc 17 [.ref (some (p, 0))] σ Q := by
  unfold big at hs
  refine body cf_spaces (Eq.refl true) ?_
  simp -implicitDefEqProofs only [vf_spaces, hp, wset, tailW, tailEnd, isLenV, isOneV, vop, vbin, vbinI, vun, ↓reduceIte, Nat.reduceEqDiff, Nat.reduceAdd, vcells, vcut, cutSK, cutVK, cutNK, fillV, spl, Nat.reduceLeDiff, V.isNil, bne_self_eq_false]
  refine LoopP.intro (fun n fr σ' => ∃ j, j ≤ s.length ∧ n = s.length - j ∧ skipSp s j = skipSp s i ∧ fr 0 = .ref (some (p, 0)) ∧ σ' = { σ with objs := σ.objs.set p (psr s j d) }) (s.length - i)
    ⟨i, hi, rfl, rfl, rfl, by rw [set_same hp]⟩ ?_
  rintro n fr σ' ⟨j, hj, rfl, hjs, h0, rfl⟩
  have hp' : (σ.objs.set p (psr s j d))[p]? = some (psr s j d) := set_get hp
  simp -implicitDefEqProofs only [h0, hp', wset, tailW, tailEnd, isLenV, isOneV, vop, vbin, vbinI, vun, ↓reduceIte, Nat.reduceEqDiff, Nat.reduceAdd, vcells, vcut, cutSK, cutVK, cutNK, fillV, spl, Nat.reduceLeDiff, V.isNil, bne_self_eq_false]
  refine chooseK_split (fun h1 => ?_) (fun h1 => ?_) <;> simp -implicitDefEqProofs only [h1, h0, hp', wset, tailW, tailEnd, isLenV, isOneV, vop, vbin, vbinI, vun, ↓reduceIte, Nat.reduceEqDiff, Nat.reduceAdd, vcells, vcut, cutSK, cutVK, cutNK, fillV, spl, Nat.reduceLeDiff, V.isNil, bne_self_eq_false]
  · have h1' : (j : Int) < (s.length : Int) := by simpa using h1
    have hst := skipSp_step (s := s) (i := j) (by omega)
    simp -implicitDefEqProofs only [h1', h0, hp', wset, tailW, tailEnd, isLenV, isOneV, vop, vbin, vbinI, vun, ↓reduceIte, Nat.reduceEqDiff, Nat.reduceAdd, vcells, vcut, cutSK, cutVK, cutNK, fillV, spl, Nat.reduceLeDiff, V.isNil, bne_self_eq_false]
    refine isSpace_C ?_
    simp -implicitDefEqProofs only [h1, h0, hp', wset, tailW, tailEnd, isLenV, isOneV, vop, vbin, vbinI, vun, ↓reduceIte, Nat.reduceEqDiff, Nat.reduceAdd, vcells, vcut, cutSK, cutVK, cutNK, fillV, spl, Nat.reduceLeDiff, V.isNil, bne_self_eq_false]
    refine chooseK_split (fun h2 => ?_) (fun h2 => ?_) <;> simp -implicitDefEqProofs only [h2, h0, hp', wset, tailW, tailEnd, isLenV, isOneV, vop, vbin, vbinI, vun, ↓reduceIte, Nat.reduceEqDiff, Nat.reduceAdd, vcells, vcut, cutSK, cutVK, cutNK, fillV, spl, Nat.reduceLeDiff, V.isNil, bne_self_eq_false]
    · rw [wrap64 (by omega)]
      rw [if_pos h2] at hst
      refine ⟨s.length - (j + 1), by omega, j + 1, by omega, rfl, by rw [← hjs, hst], ?_, ?_⟩
      · simp -implicitDefEqProofs only [h0, wset, tailW, tailEnd, isLenV, isOneV, vop, vbin, vbinI, vun, ↓reduceIte, Nat.reduceEqDiff, Nat.reduceAdd, vcells, vcut, cutSK, cutVK, cutNK, fillV, spl, Nat.reduceLeDiff, V.isNil, bne_self_eq_false]
      · simp [List.set_set, psr]
    · rw [if_neg (by simpa using h2)] at hst
      rw [← hjs, hst] at h
      exact .inl h
  · have h1' : ¬ (j : Int) < (s.length : Int) := by simpa using h1
    obtain rfl : j = s.length := by omega
    rw [← hjs, skipSp_end] at h
    exact .inl h

theorem skipSp_le {s : List UInt8} {i : Nat} (h : i ≤ s.length) : skipSp s i ≤ s.length := by
  unfold skipSp
  have := (List.takeWhile_sublist (l := s.drop i) fun c => spB c.toNat).length_le
  simp only [List.length_drop] at this
  omega
theorem skipSp_ge (s : List UInt8) (i : Nat) : i ≤ skipSp s i := Nat.le_add_right _ _

/-- The byte at a place, or 0. -/
def byteAt (s : List UInt8) (i : Nat) : UInt8 := s.getD i 0
theorem byteAt_end {s : List UInt8} {i : Nat} (h : s.length ≤ i) : byteAt s i = 0 := by simp [byteAt, List.getD_eq_getElem?_getD, List.getElem?_eq_none h]

theorem peek_C {s : List UInt8} {i d p : Nat} {σ : St} {Q : Out → St → Prop} (hp : σ.objs[p]? = some (psr s i d)) (hi : i ≤ s.length) (hs : s.length ≤ big)
    (h : Q (.ret (.int .u8 ((byteAt s (skipSp s i)).toNat : Int))) { σ with objs := σ.objs.set p (psr s (skipSp s i) d) }) : C Xc 25 [.ref (some (p, 0))] σ Q := by
  have hle := skipSp_le hi
  refine body cf_peek (Eq.refl true) ?_
  simp -implicitDefEqProofs only [vf_peek, hp, wset, tailW, tailEnd, isLenV, isOneV, vop, vbin, vbinI, vun, ↓reduceIte, Nat.reduceEqDiff, Nat.reduceAdd, vcells, vcut, cutSK, cutVK, cutNK, fillV, spl, Nat.reduceLeDiff, V.isNil, bne_self_eq_false]
  refine spaces_C hp hi hs ?_
  have hp' : (σ.objs.set p (psr s (skipSp s i) d))[p]? = some (psr s (skipSp s i) d) := set_get hp
  simp -implicitDefEqProofs only [hp', wset, tailW, tailEnd, isLenV, isOneV, vop, vbin, vbinI, vun, ↓reduceIte, Nat.reduceEqDiff, Nat.reduceAdd, vcells, vcut, cutSK, cutVK, cutNK, fillV, spl, Nat.reduceLeDiff, V.isNil, bne_self_eq_false]
  refine chooseK_split (fun h1 => ?_) (fun h1 => ?_) <;> simp -implicitDefEqProofs only [h1, hp', wset, tailW, tailEnd, isLenV, isOneV, vop, vbin, vbinI, vun, ↓reduceIte, Nat.reduceEqDiff, Nat.reduceAdd, vcells, vcut, cutSK, cutVK, cutNK, fillV, spl, Nat.reduceLeDiff, V.isNil, bne_self_eq_false]
  · have h1' : skipSp s i = s.length := by simp at h1; omega
    rw [byteAt_end (by omega)] at h
    exact .inl h
  · have h1' : skipSp s i ≠ s.length := by simp at h1; omega
    refine ⟨by omega, ?_⟩
    exact .inl h

theorem expect_C {s : List UInt8} {i d p : Nat} {c : UInt8} {σ : St} {Q : Out → St → Prop} (hp : σ.objs[p]? = some (psr s i d)) (hi : i ≤ s.length) (hs : s.length ≤ big)
    (h : if byteAt s (skipSp s i) = c ∧ skipSp s i ≠ s.length then Q (.ret .und) { σ with objs := σ.objs.set p (psr s (skipSp s i + 1) d) }
      else Q (.pan (.iface 45 (.agg [.int .i64 (skipSp s i), .int .i64 (if skipSp s i = s.length then 8 else 7)]))) { σ with objs := σ.objs.set p (psr s (skipSp s i) d) }) : C Xc 49 [.ref (some (p, 0)), .int .u8 (c.toNat : Int)] σ Q := by
  have hle := skipSp_le hi
  unfold big at hs
  refine body cf_expect (Eq.refl true) ?_
  simp -implicitDefEqProofs only [vf_expect, hp, wset, tailW, tailEnd, isLenV, isOneV, vop, vbin, vbinI, vun, ↓reduceIte, Nat.reduceEqDiff, Nat.reduceAdd, vcells, vcut, cutSK, cutVK, cutNK, fillV, spl, Nat.reduceLeDiff, V.isNil, bne_self_eq_false]
  refine peek_C hp hi (by unfold big; omega) ?_
  have hp' : (σ.objs.set p (psr s (skipSp s i) d))[p]? = some (psr s (skipSp s i) d) := set_get hp
  simp -implicitDefEqProofs only [hp', wset, tailW, tailEnd, isLenV, isOneV, vop, vbin, vbinI, vun, ↓reduceIte, Nat.reduceEqDiff, Nat.reduceAdd, vcells, vcut, cutSK, cutVK, cutNK, fillV, spl, Nat.reduceLeDiff, V.isNil, bne_self_eq_false]
  have bad : ¬ (byteAt s (skipSp s i) = c ∧ skipSp s i ≠ s.length) → C Xc 34 [.ref (some (p, 0))] { σ with objs := σ.objs.set p (psr s (skipSp s i) d) } (fun o σ1 => ∃ v, o = .pan v ∧ Q (.pan v) σ1) := fun hb => by
    rw [if_neg hb] at h
    exact wrong_C hp' ⟨_, rfl, h⟩
  refine chooseK_split (fun h1 => ?_) (fun h1 => ?_) <;> simp -implicitDefEqProofs only [h1, hp', wset, tailW, tailEnd, isLenV, isOneV, vop, vbin, vbinI, vun, ↓reduceIte, Nat.reduceEqDiff, Nat.reduceAdd, vcells, vcut, cutSK, cutVK, cutNK, fillV, spl, Nat.reduceLeDiff, V.isNil, bne_self_eq_false]
  · refine (bad (fun hb => by simp [hb.1] at h1)).mono ?_
    rintro o σ1 ⟨v, rfl, hv⟩
    simp -implicitDefEqProofs only [wset, tailW, tailEnd, isLenV, isOneV, vop, vbin, vbinI, vun, ↓reduceIte, Nat.reduceEqDiff, Nat.reduceAdd, vcells, vcut, cutSK, cutVK, cutNK, fillV, spl, Nat.reduceLeDiff, V.isNil, bne_self_eq_false]
    exact .inl hv
  · refine chooseK_split (fun h2 => ?_) (fun h2 => ?_) <;> simp -implicitDefEqProofs only [h2, hp', wset, tailW, tailEnd, isLenV, isOneV, vop, vbin, vbinI, vun, ↓reduceIte, Nat.reduceEqDiff, Nat.reduceAdd, vcells, vcut, cutSK, cutVK, cutNK, fillV, spl, Nat.reduceLeDiff, V.isNil, bne_self_eq_false]
    · refine (bad (fun hb => by simp at h2; omega)).mono ?_
      rintro o σ1 ⟨v, rfl, hv⟩
      simp -implicitDefEqProofs only [wset, tailW, tailEnd, isLenV, isOneV, vop, vbin, vbinI, vun, ↓reduceIte, Nat.reduceEqDiff, Nat.reduceAdd, vcells, vcut, cutSK, cutVK, cutNK, fillV, spl, Nat.reduceLeDiff, V.isNil, bne_self_eq_false]
      exact .inl hv
    · have h2' : skipSp s i ≠ s.length := by simp at h2; omega
      have h1' : byteAt s (skipSp s i) = c := UInt8.toNat_inj.1 (by simp at h1; omega)
      rw [if_pos ⟨h1', h2'⟩] at h
      rw [wrap64 (by omega)]
      refine .inl ?_
      simpa [List.set_set, psr, V.und] using h

def hasPre (s p : List UInt8) : Bool := s.take p.length == p

theorem slHasPrefix_C {s p : List UInt8} {σ : St} {Q : Out → St → Prop} (h : Q (.ret (.bool (hasPre s p))) σ) : C Xc 21 [.str s, .str p] σ Q := by
  refine body cf_slHasPrefix (Eq.refl true) ?_
  simp -implicitDefEqProofs only [vf_slHasPrefix, wset, tailW, tailEnd, isLenV, isOneV, vop, vbin, vbinI, vun, ↓reduceIte, Nat.reduceEqDiff, Nat.reduceAdd, vcells, vcut, cutSK, cutVK, cutNK, fillV, spl, Nat.reduceLeDiff, V.isNil, bne_self_eq_false]
  refine chooseK_split (fun h1 => ?_) (fun h1 => ?_) <;> simp -implicitDefEqProofs only [h1, wset, tailW, tailEnd, isLenV, isOneV, vop, vbin, vbinI, vun, ↓reduceIte, Nat.reduceEqDiff, Nat.reduceAdd, vcells, vcut, cutSK, cutVK, cutNK, fillV, spl, Nat.reduceLeDiff, V.isNil, bne_self_eq_false]
  · have h1' : p.length ≤ s.length := by simp at h1; omega
    refine ⟨by omega, ?_⟩
    simp -implicitDefEqProofs only [cutSK, cut, h1, wset, tailW, tailEnd, isLenV, isOneV, vop, vbin, vbinI, vun, ↓reduceIte, Nat.reduceEqDiff, Nat.reduceAdd, vcells, vcut, cutSK, cutVK, cutNK, fillV, spl, Nat.reduceLeDiff, V.isNil, bne_self_eq_false]
    exact .inl h
  · have h1' : ¬ p.length ≤ s.length := by simp at h1; omega
    have : hasPre s p = false := by
      unfold hasPre
      rw [beq_eq_false_iff_ne]
      intro e
      have := congrArg List.length e
      rw [List.length_take] at this
      omega
    rw [this] at h
    exact .inl h

theorem hasPrefix_C {s p : List UInt8} {σ : St} {Q : Out → St → Prop} (h : Q (.ret (.bool (hasPre s p))) σ) : C Xc 9 [.str s, .str p] σ Q := by
  refine body cf_hasPrefix (Eq.refl true) ?_
  simp -implicitDefEqProofs only [vf_hasPrefix, wset, tailW, tailEnd, isLenV, isOneV, vop, vbin, vbinI, vun, ↓reduceIte, Nat.reduceEqDiff, Nat.reduceAdd, vcells, vcut, cutSK, cutVK, cutNK, fillV, spl, Nat.reduceLeDiff, V.isNil, bne_self_eq_false]
  refine slHasPrefix_C ?_
  simp -implicitDefEqProofs only [wset, tailW, tailEnd, isLenV, isOneV, vop, vbin, vbinI, vun, ↓reduceIte, Nat.reduceEqDiff, Nat.reduceAdd, vcells, vcut, cutSK, cutVK, cutNK, fillV, spl, Nat.reduceLeDiff, V.isNil, bne_self_eq_false]
  exact .inl h

theorem slIndexByte_C {s : List UInt8} {c : UInt8} {σ : St} {Q : Out → St → Prop} (h : Q (.ret (.int .i64 (Lib.indexByte s c))) σ) : C Xc 56 [.str s, .int .u8 (c.toNat : Int)] σ Q := by
  refine body cf_slIndexByte (Eq.refl true) ?_
  simp -implicitDefEqProofs only [vf_slIndexByte, ixByte, wset, tailW, tailEnd, isLenV, isOneV, vop, vbin, vbinI, vun, ↓reduceIte, Nat.reduceEqDiff, Nat.reduceAdd, vcells, vcut, cutSK, cutVK, cutNK, fillV, spl, Nat.reduceLeDiff, V.isNil, bne_self_eq_false]
  refine .inl ?_
  simpa using h

theorem indexByte_C {s : List UInt8} {c : UInt8} {σ : St} {Q : Out → St → Prop} (h : Q (.ret (.int .i64 (Lib.indexByte s c))) σ) : C Xc 44 [.str s, .int .u8 (c.toNat : Int)] σ Q := by
  refine body cf_indexByte (Eq.refl true) ?_
  simp -implicitDefEqProofs only [vf_indexByte, wset, tailW, tailEnd, isLenV, isOneV, vop, vbin, vbinI, vun, ↓reduceIte, Nat.reduceEqDiff, Nat.reduceAdd, vcells, vcut, cutSK, cutVK, cutNK, fillV, spl, Nat.reduceLeDiff, V.isNil, bne_self_eq_false]
  refine slIndexByte_C ?_
  simp -implicitDefEqProofs only [wset, tailW, tailEnd, isLenV, isOneV, vop, vbin, vbinI, vun, ↓reduceIte, Nat.reduceEqDiff, Nat.reduceAdd, vcells, vcut, cutSK, cutVK, cutNK, fillV, spl, Nat.reduceLeDiff, V.isNil, bne_self_eq_false]
  exact .inl h

/-- May a value begin with this byte? -/
def beginsB (c : UInt8) : Bool := decide (Lib.indexByte [110, 116, 102, 34, 45, 48, 49, 50, 51, 52, 53, 54, 55, 56, 57, 91, 123] c ≥ 0)

theorem begins_C {c : UInt8} {σ : St} {Q : Out → St → Prop} (h : Q (.ret (.bool (beginsB c))) σ) : C Xc 26 [.int .u8 (c.toNat : Int)] σ Q := by
  refine body cf_begins (Eq.refl true) ?_
  simp -implicitDefEqProofs only [vf_begins, wset, tailW, tailEnd, isLenV, isOneV, vop, vbin, vbinI, vun, ↓reduceIte, Nat.reduceEqDiff, Nat.reduceAdd, vcells, vcut, cutSK, cutVK, cutNK, fillV, spl, Nat.reduceLeDiff, V.isNil, bne_self_eq_false]
  refine indexByte_C ?_
  simp -implicitDefEqProofs only [wset, tailW, tailEnd, isLenV, isOneV, vop, vbin, vbinI, vun, ↓reduceIte, Nat.reduceEqDiff, Nat.reduceAdd, vcells, vcut, cutSK, cutVK, cutNK, fillV, spl, Nat.reduceLeDiff, V.isNil, bne_self_eq_false]
  exact .inl h
end Go.Proofs.YtgdcdkgmeomhpaaGreatDoor

namespace Go.Proofs.YtgdcdkgmeomhpaaGreatDoor
open Go Go.Vs

mutual
/-- A JSON value (api.Value): kind, bool, number, string, items, members, offset. 'ni', 'nm': an empty list that is not nil. -/
inductive JV where
  | mk (k : Int) (b : Bool) (n : Int) (s : List UInt8) (ni : Bool) (is : List JV) (nm : Bool) (ms : List JM) (a : Int)
inductive JM where
  | mk (key : List UInt8) (v : JV) (a : Int)
end

def slcE (nn : Bool) (xs : List V) : V := .slc (nn || !xs.isEmpty) xs .no

mutual
def JV.cells : JV → List V
  | .mk k b n s ni is nm ms a => [.int .i64 k, .bool b, .int .i64 n, .str s, slcE ni (encL is), slcE nm (encMs ms), .int .i64 a]
def encL : List JV → List V
  | [] => []
  | v :: r => .agg v.cells :: encL r
def JM.cells : JM → List V
  | .mk key v a => .str key :: v.cells ++ [.int .i64 a]
def encMs : List JM → List V
  | [] => []
  | m :: r => .agg m.cells :: encMs r
end
def JV.enc (v : JV) : V := .agg v.cells
def JM.enc (m : JM) : V := .agg m.cells

theorem JV.len (v : JV) : v.cells.length = 7 := by cases v; simp [JV.cells]
theorem JM.len (m : JM) : m.cells.length = 9 := by cases m; simp [JM.cells, JV.len]

theorem cleanL_append (k : Nat) (a b : List V) : cleanL k (a ++ b) = cleanL k a ++ cleanL k b := by simp [cleanL_eq]
theorem fitsL_append (n nm k : Nat) (a b : List V) : fitsL n nm k (a ++ b) = (fitsL n nm k a && fitsL n nm k b) := by
  induction a with
  | nil => simp [fitsL]
  | cons x a ih => simp [fitsL, ih, Bool.and_assoc]

theorem take7 (j : JV) : List.take 7 j.cells = j.cells := List.take_of_length_le (by simp [JV.len])
theorem drop7 {l : List V} (h : l.length = 7) : List.drop 7 l = [] := List.drop_of_length_le (by omega)

mutual
theorem JV.clean (k : Nat) : ∀ v : JV, cleanL k v.cells = v.cells
  | .mk _ _ _ _ _ is _ ms _ => by simp [JV.cells, cleanL, V.clean, slcE, encL_clean k is, encMs_clean k ms, Tk.clean]
theorem encL_clean (k : Nat) : ∀ l : List JV, cleanL k (encL l) = encL l
  | [] => rfl
  | v :: r => by simp [encL, cleanL, V.clean, JV.clean k v, encL_clean k r]
theorem JM.clean (k : Nat) : ∀ m : JM, cleanL k m.cells = m.cells
  | .mk _ v _ => by simp [JM.cells, cleanL, V.clean, JV.clean k v, cleanL_append]
theorem encMs_clean (k : Nat) : ∀ l : List JM, cleanL k (encMs l) = encMs l
  | [] => rfl
  | m :: r => by simp [encMs, cleanL, V.clean, JM.clean k m, encMs_clean k r]
end
mutual
theorem JV.fits (n nm k : Nat) : ∀ v : JV, fitsL n nm k v.cells = true
  | .mk _ _ _ _ _ is _ ms _ => by simp [JV.cells, fitsL, V.fits, slcE, encL_fits n nm k is, encMs_fits n nm k ms, Tk.fits]
theorem encL_fits (n nm k : Nat) : ∀ l : List JV, fitsL n nm k (encL l) = true
  | [] => rfl
  | v :: r => by simp [encL, fitsL, V.fits, JV.fits n nm k v, encL_fits n nm k r]
theorem JM.fits (n nm k : Nat) : ∀ m : JM, fitsL n nm k m.cells = true
  | .mk _ v _ => by simp [JM.cells, fitsL, V.fits, JV.fits n nm k v, fitsL_append]
theorem encMs_fits (n nm k : Nat) : ∀ l : List JM, fitsL n nm k (encMs l) = true
  | [] => rfl
  | m :: r => by simp [encMs, fitsL, V.fits, JM.fits n nm k m, encMs_fits n nm k r]
end

/-- A function by its body, the store well formed. -/
theorem bodyW {f : FuncId} {vf : VFunc} (hf : cfunc Go.Proofs.Tryz.prog f = some vf) {args : List V} {σ : St} {Q : Out → St → Prop} (hlen : Nat.ble args.length vf.m = true)
    (h : σ.wf → W Xc vf.code (FinK Xc vf.res σ Q) (args0 args) σ) : C Xc f args σ Q := C_wf (cfunc_callable (by rw [XP]; exact hf)) fun hw => body hf hlen (h hw)

theorem cut_drop {α : Type} (s : List α) (i : Nat) : cut s i s.length = s.drop i := by simp [cut]

section
variable {α : Type}
theorem app_get {A : List α} {n : Nat} (x : α) (r : List α) (h : A.length = n) : (A ++ x :: r)[n]? = some x := by subst h; simp
theorem app_get1 {A : List α} {n : Nat} (x y : α) (r : List α) (h : A.length = n) : (A ++ x :: y :: r)[n + 1]? = some y := by subst h; simp
theorem app_set {A : List α} {n : Nat} (x y : α) (r : List α) (h : A.length = n) : (A ++ x :: r).set n y = A ++ y :: r := by subst h; simp
theorem app_set1 {A : List α} {n : Nat} (x y z : α) (r : List α) (h : A.length = n) : (A ++ x :: y :: r).set (n + 1) z = A ++ x :: z :: r := by subst h; simp [List.set_append_right]
theorem app_low {A : List α} {p : Nat} {x : α} (r : List α) (h : A[p]? = some x) : (A ++ r)[p]? = some x := by
  rw [List.getElem?_append_left (List.getElem?_eq_some_iff.1 h).1]; exact h
theorem set_low {A : List α} {p : Nat} (y : α) (r : List α) (h : p < A.length) : (A ++ r).set p y = A.set p y ++ r := by
  rw [List.set_append_left _ _ h]
end

theorem word_C {s name : List UInt8} {i d p : Nat} {j : JV} {σ : St} {Q : Out → St → Prop} (hp : σ.objs[p]? = some (psr s i d)) (hi : i ≤ s.length) (hs : s.length ≤ big) (hn : name.length ≤ big)
    (h : if hasPre (s.drop i) name = true then Q (.ret j.enc) { σ with objs := σ.objs.set p (psr s (i + name.length) d) } else Q (.pan (.iface 45 (.agg [.int .i64 i, .int .i64 7]))) σ) :
    C Xc 27 [.ref (some (p, 0)), .str name, j.enc] σ Q := by
  unfold big at hs hn
  have hlt : p < σ.objs.length := (List.getElem?_eq_some_iff.1 hp).1
  have hq : ∀ a b : List V, (σ.objs ++ [a] ++ [b])[p]? = some (psr s i d) := fun a b => by
    rw [List.append_assoc, List.getElem?_append_left hlt]; exact hp
  refine bodyW cf_pword (Eq.refl true) fun hw => ?_
  simp -implicitDefEqProofs only [vf_pword, JV.enc, hq, wset, tailW, tailEnd, isLenV, isOneV, vop, vbin, vbinI, vun, ↓reduceIte, Nat.reduceEqDiff, Nat.reduceAdd, vcells, vcut, cutSK, cutVK, cutNK, fillV, spl, Nat.reduceLeDiff, V.isNil, bne_self_eq_false]
  refine ⟨by omega, ?_⟩
  simp -implicitDefEqProofs only [cut_drop, wset, tailW, tailEnd, isLenV, isOneV, vop, vbin, vbinI, vun, ↓reduceIte, Nat.reduceEqDiff, Nat.reduceAdd, vcells, vcut, cutSK, cutVK, cutNK, fillV, spl, Nat.reduceLeDiff, V.isNil, bne_self_eq_false]
  refine hasPrefix_C ?_
  simp -implicitDefEqProofs only [cut_drop, hq, wset, tailW, tailEnd, isLenV, isOneV, vop, vbin, vbinI, vun, ↓reduceIte, Nat.reduceEqDiff, Nat.reduceAdd, vcells, vcut, cutSK, cutVK, cutNK, fillV, spl, Nat.reduceLeDiff, V.isNil, bne_self_eq_false]
  refine chooseK_split (fun h1 => ?_) (fun h1 => ?_) <;> simp -implicitDefEqProofs only [h1, hq, wset, tailW, tailEnd, isLenV, isOneV, vop, vbin, vbinI, vun, ↓reduceIte, Nat.reduceEqDiff, Nat.reduceAdd, vcells, vcut, cutSK, cutVK, cutNK, fillV, spl, Nat.reduceLeDiff, V.isNil, bne_self_eq_false]
  · rw [if_pos h1] at h
    have e0 : ∀ (a b : List V) (x : List V), (σ.objs ++ [a] ++ [b]).set p x = σ.objs.set p x ++ [a, b] := fun a b x => by
      rw [List.append_assoc]; exact set_low x _ hlt
    have l0 : ∀ x : List V, (σ.objs.set p x).length = σ.objs.length := fun x => by simp
    simp -implicitDefEqProofs only [e0, app_get _ _ (l0 _), app_get1 _ _ _ (l0 _), app_set1 _ _ _ _ (l0 _), JV.len, take7, drop7, wset, tailW, tailEnd, isLenV, isOneV, vop, vbin, vbinI, vun, ↓reduceIte, Nat.reduceEqDiff, Nat.reduceAdd, vcells, vcut, cutSK, cutVK, cutNK, fillV, spl, Nat.reduceLeDiff, V.isNil, bne_self_eq_false]
    rw [wrap64 (by omega)]
    have hset := set_get (y := psr s (i + name.length) d) hp
    rw [List.append_assoc]
    refine exitCutO (by simp) rfl rfl (by simpa using hw.1) hw.2 ?_ (fun o cs ho => ?_) (fun r es hr => .inl hr) ?_
    · simp [Out.clean, Out.fits, V.clean, V.fits, JV.clean, JV.fits]
    · by_cases e : o = p
      · subst e
        rw [List.getElem?_set_self hlt] at ho
        cases ho
        exact .inr (by simp [fitsL, V.fits])
      · rw [List.getElem?_set_ne (Ne.symm e)] at ho
        exact .inl ho
    · simpa [Out.clean, V.clean, JV.clean, JV.enc, psr] using h
  · rw [if_neg (by simp [h1])] at h
    rw [List.append_assoc, List.append_assoc]
    refine exitCutO rfl rfl rfl hw.1 hw.2 ?_ (fun o cs ho => .inl ho) (fun r es hr => .inl hr) ?_
    · simp [Out.clean, Out.fits, V.clean, V.fits, cleanL, fitsL]
    · simpa [Out.clean, V.clean, cleanL] using h
end Go.Proofs.YtgdcdkgmeomhpaaGreatDoor

namespace Go.Proofs.YtgdcdkgmeomhpaaGreatDoor
open Go Go.Vs

/-- A hexadecimal digit's value. -/
def hexV (c : UInt8) : Option Nat :=
  if 48 ≤ c.toNat ∧ c.toNat ≤ 57 then some (c.toNat - 48)
  else if 97 ≤ c.toNat ∧ c.toNat ≤ 102 then some (c.toNat - 87)
  else if 65 ≤ c.toNat ∧ c.toNat ≤ 70 then some (c.toNat - 55)
  else none

def hexF : List UInt8 → Nat → Option Nat
  | [], a => some a
  | c :: r, a => match hexV c with
    | some d => hexF r (a * 16 + d)
    | none => none

/-- The number of a sequence with u at the head. -/
def unitS (s : List UInt8) : Option Nat := if 6 ≤ s.length ∧ s.take 2 = [92, 117] then hexF ((s.drop 2).take 4) 0 else none

def hexI (c : UInt8) : Int := match hexV c with | some d => d | none => -1
theorem all_u8 {p : UInt8 → Bool} (h : (List.range 256).all (fun n => p (UInt8.ofNat n)) = true) (c : UInt8) : p c = true := by
  have := List.all_eq_true.1 h c.toNat (List.mem_range.2 c.toNat_lt)
  simpa using this
theorem hex_low (c : UInt8) (h : ¬ (65 ≤ c.toNat ∧ c.toNat ≤ 70)) : Lib.indexByte [48, 49, 50, 51, 52, 53, 54, 55, 56, 57, 97, 98, 99, 100, 101, 102] c = hexI c := by
  have := all_u8 (p := fun c => (decide (65 ≤ c.toNat ∧ c.toNat ≤ 70)) || decide (Lib.indexByte [48, 49, 50, 51, 52, 53, 54, 55, 56, 57, 97, 98, 99, 100, 101, 102] c = hexI c)) (by kernel_rfl) c
  simpa [h] using this
theorem hex_up (c : UInt8) (h : 65 ≤ c.toNat ∧ c.toNat ≤ 70) : Lib.indexByte [48, 49, 50, 51, 52, 53, 54, 55, 56, 57, 97, 98, 99, 100, 101, 102] (c + 32) = hexI c := by
  have := all_u8 (p := fun c => !(decide (65 ≤ c.toNat ∧ c.toNat ≤ 70)) || decide (Lib.indexByte [48, 49, 50, 51, 52, 53, 54, 55, 56, 57, 97, 98, 99, 100, 101, 102] (c + 32) = hexI c)) (by kernel_rfl) c
  simpa [h] using this
theorem hexV_lt {c : UInt8} {d : Nat} (h : hexV c = some d) : d < 16 := by
  unfold hexV at h
  split at h
  · cases h; omega
  · split at h
    · cases h; omega
    · split at h
      · cases h; omega
      · cases h

theorem wrap32 {n : Nat} (h : n < 2147483648) : IntKind.wrap .i32 (n : Int) = n := by
  simp only [IntKind.wrap, IntKind.bits, IntKind.signed, Bool.true_and]
  split <;> simp_all <;> omega
theorem or16 {a d : Nat} (ha : a < 4096) (hd : d < 16) : ibits .or .i32 (IntKind.wrap .i32 ((a : Int) * 2 ^ (min (Int.toNat 4) (IntKind.bits .i32)))) (IntKind.wrap .i32 (d : Int)) = ((a * 16 + d : Nat) : Int) := by
  have e : (a : Int) * 2 ^ (min (Int.toNat 4) (IntKind.bits .i32)) = ((a * 16 : Nat) : Int) := by
    have : (min (Int.toNat 4) (IntKind.bits .i32)) = 4 := by decide
    rw [this]; omega
  rw [e, wrap32 (by omega), wrap32 (by omega)]
  have h1 : (BitVec.ofInt 32 ((a * 16 : Nat) : Int) ||| BitVec.ofInt 32 (d : Int)).toNat = a * 16 + d := by
    rw [BitVec.ofInt_natCast, BitVec.ofInt_natCast, BitVec.toNat_or, BitVec.toNat_ofNat, BitVec.toNat_ofNat, Nat.mod_eq_of_lt (by omega), Nat.mod_eq_of_lt (by omega)]
    have := Nat.shiftLeft_add_eq_or_of_lt (i := 4) (b := d) (by omega) a
    rw [Nat.shiftLeft_eq, show (2 : Nat) ^ 4 = 16 from rfl] at this
    omega
  show IntKind.wrap .i32 ((BitVec.ofInt 32 ((a * 16 : Nat) : Int) ||| BitVec.ofInt 32 (d : Int)).toNat : Int) = _
  rw [h1, wrap32 (by omega)]


theorem unit_C {s : List UInt8} {σ : St} {Q : Out → St → Prop} (h : Q (.ret (match unitS s with | some n => .tup [.int .i32 (n : Int), .bool true] | none => .tup [.int .i32 0, .bool false])) σ) : C Xc 72 [.str s] σ Q := by
  refine body cf_jsUnit (Eq.refl true) ?_
  simp -implicitDefEqProofs only [vf_jsUnit, wset, tailW, tailEnd, isLenV, isOneV, vop, vbin, vbinI, vun, ↓reduceIte, Nat.reduceEqDiff, Nat.reduceAdd, vcells, vcut, cutSK, cutVK, cutNK, fillV, spl, Nat.reduceLeDiff, V.isNil, bne_self_eq_false]
  refine chooseK_split (fun h1 => ?_) (fun h1 => ?_) <;> simp -implicitDefEqProofs only [h1, wset, tailW, tailEnd, isLenV, isOneV, vop, vbin, vbinI, vun, ↓reduceIte, Nat.reduceEqDiff, Nat.reduceAdd, vcells, vcut, cutSK, cutVK, cutNK, fillV, spl, Nat.reduceLeDiff, V.isNil, bne_self_eq_false]
  · have h1' : s.length < 6 := by simp at h1; omega
    have : unitS s = none := by unfold unitS; rw [if_neg]; omega
    rw [this] at h
    exact .inl h
  have h1' : 6 ≤ s.length := by simp at h1; omega
  refine ⟨by omega, ?_⟩
  simp -implicitDefEqProofs only [cut, h1, wset, tailW, tailEnd, isLenV, isOneV, vop, vbin, vbinI, vun, ↓reduceIte, Nat.reduceEqDiff, Nat.reduceAdd, vcells, vcut, cutSK, cutVK, cutNK, fillV, spl, Nat.reduceLeDiff, V.isNil, bne_self_eq_false]
  refine chooseK_split (fun h2 => ?_) (fun h2 => ?_) <;> simp -implicitDefEqProofs only [h2, wset, tailW, tailEnd, isLenV, isOneV, vop, vbin, vbinI, vun, ↓reduceIte, Nat.reduceEqDiff, Nat.reduceAdd, vcells, vcut, cutSK, cutVK, cutNK, fillV, spl, Nat.reduceLeDiff, V.isNil, bne_self_eq_false]
  case refine_2 =>
    have : unitS s = none := by
      unfold unitS; rw [if_neg]
      rintro ⟨_, h3⟩
      simp [h3] at h2
    rw [this] at h
    exact .inl h
  have h2' : s.take 2 = [92, 117] := by simpa using h2
  have hc : cut s 2 6 = (s.drop 2).take 4 := by simp [cut, List.drop_take]
  have hl : ((s.drop 2).take 4).length = 4 := by simp; omega
  refine ⟨⟨by omega, by omega⟩, ⟨by omega, by omega⟩, ?_, ?_⟩
  · show (cut s 2 6).length ≤ big
    rw [hc, hl]; unfold big; omega
  have hu : unitS s = hexF ((s.drop 2).take 4) 0 := by unfold unitS; rw [if_pos ⟨h1', h2'⟩]
  rw [hu] at h
  generalize hds : (s.drop 2).take 4 = ds at h hl hc
  have hc' : cut s (Int.toNat 2) (Int.toNat 6) = ds := hc
  rw [hc']
  refine LoopP.intro (fun n fr σ' => ∃ j r, j ≤ 4 ∧ n = 4 - j ∧ r < 16 ^ j ∧ hexF (ds.drop j) r = hexF ds 0 ∧ fr 18 = .slc true (bytesV ds) .no ∧ fr 19 = .int .i64 4 ∧ fr 20 = .int .i64 j ∧ fr 4 = .int .i32 r ∧ σ' = σ) 4 ?_ ?_
  · refine ⟨0, 0, by omega, rfl, by omega, by simp, ?_, ?_, ?_, ?_, rfl⟩ <;> simp [upd, bytesV, hl]
  have hbl : (bytesV ds).length = 4 := by simp [bytesV, hl]
  have hbc : ∀ y ∈ bytesV ds, y.cells.length = 1 := fun y hy => by
    obtain ⟨b, _, rfl⟩ := List.mem_map.1 hy; rfl
  rintro n fr σ' ⟨j, r, hj, rfl, hr, hx, f18, f19, f20, f4, rfl⟩
  simp -implicitDefEqProofs only [f18, f19, f20, f4, wset, tailW, tailEnd, isLenV, isOneV, vop, vbin, vbinI, vun, ↓reduceIte, Nat.reduceEqDiff, Nat.reduceAdd, vcells, vcut, cutSK, cutVK, cutNK, fillV, spl, Nat.reduceLeDiff, V.isNil, bne_self_eq_false]
  refine chooseK_split (fun h3 => ?_) (fun h3 => ?_)
  · have h3' : j < 4 := by simp at h3; omega
    have hb : (bytesV ds).getD j .und = .int .u8 ((ds.getD j 0).toNat : Int) := by
      simp [bytesV, List.getD_eq_getElem?_getD, List.getElem?_eq_getElem (show j < ds.length by omega)]
    simp -implicitDefEqProofs only [h3, f18, f19, f20, f4, hb, hbl, hbc, wset, tailW, tailEnd, isLenV, isOneV, vop, vbin, vbinI, vun, ↓reduceIte, Nat.reduceEqDiff, Nat.reduceAdd, vcells, vcut, cutSK, cutVK, cutNK, fillV, spl, Nat.reduceLeDiff, V.isNil, bne_self_eq_false]
    refine ⟨by omega, hbc, ?_⟩
    have hdc : ds.drop j = ds.getD j 0 :: ds.drop (j + 1) := by
      rw [List.drop_eq_getElem_cons (by omega), List.getD_eq_getElem?_getD, List.getElem?_eq_getElem (by omega)]; rfl
    rw [hdc] at hx
    generalize ds.getD j 0 = c at hx hb ⊢
    refine chooseK_split (fun h4 => ?_) (fun h4 => ?_) <;> simp -implicitDefEqProofs only [h4, wset, tailW, tailEnd, isLenV, isOneV, vop, vbin, vbinI, vun, ↓reduceIte, Nat.reduceEqDiff, Nat.reduceAdd, vcells, vcut, cutSK, cutVK, cutNK, fillV, spl, Nat.reduceLeDiff, V.isNil, bne_self_eq_false]
    · refine chooseK_split (fun h5 => ?_) (fun h5 => ?_) <;> simp -implicitDefEqProofs only [h5, wset, tailW, tailEnd, isLenV, isOneV, vop, vbin, vbinI, vun, ↓reduceIte, Nat.reduceEqDiff, Nat.reduceAdd, vcells, vcut, cutSK, cutVK, cutNK, fillV, spl, Nat.reduceLeDiff, V.isNil, bne_self_eq_false]
      · have e : IntKind.wrap .u8 ((c.toNat : Int) + 32) = ((c + 32).toNat : Int) := by
          simp at h4 h5
          have : (c + 32).toNat = c.toNat + 32 := by
            rw [UInt8.toNat_add]; simp; omega
          rw [this]
          simp [IntKind.wrap, IntKind.bits, IntKind.signed]
          omega
        rw [e]
        refine indexByte_C ?_
        rw [hex_up c (by simp at h4 h5; omega)]
        simp -implicitDefEqProofs only [wset, tailW, tailEnd, isLenV, isOneV, vop, vbin, vbinI, vun, ↓reduceIte, Nat.reduceEqDiff, Nat.reduceAdd, vcells, vcut, cutSK, cutVK, cutNK, fillV, spl, Nat.reduceLeDiff, V.isNil, bne_self_eq_false]
        cases hv : hexV c with
        | none =>
          have hI : hexI c = -1 := by simp [hexI, hv]
          rw [hI]
          have hm1 : ((-1 : Int) < 0) := by decide
          simp -implicitDefEqProofs only [hm1, wset, tailW, tailEnd, isLenV, isOneV, vop, vbin, vbinI, vun, ↓reduceIte, Nat.reduceEqDiff, Nat.reduceAdd, vcells, vcut, cutSK, cutVK, cutNK, fillV, spl, Nat.reduceLeDiff, V.isNil, bne_self_eq_false]
          have : hexF ds 0 = none := by rw [← hx]; simp [hexF, hv]
          rw [this] at h
          exact .inl h
        | some d =>
          have hI : hexI c = (d : Int) := by simp [hexI, hv]
          have hd := hexV_lt hv
          rw [hI]
          have hn0 : ¬ ((d : Int) < 0) := by omega
          simp -implicitDefEqProofs only [hn0, f4, f20, wset, tailW, tailEnd, isLenV, isOneV, vop, vbin, vbinI, vun, ↓reduceIte, Nat.reduceEqDiff, Nat.reduceAdd, vcells, vcut, cutSK, cutVK, cutNK, fillV, spl, Nat.reduceLeDiff, V.isNil, bne_self_eq_false]
          refine ⟨by omega, 4 - (j + 1), by omega, j + 1, r * 16 + d, by omega, rfl, by rw [Nat.pow_succ]; omega, by rw [← hx]; simp [hexF, hv], ?_, ?_, ?_, ?_, rfl⟩
          · simp [upd, f18]
          · simp [upd, f19]
          · simp [upd]; rw [wrap64 (by omega)]
          · simp -implicitDefEqProofs only [wset, tailW, tailEnd, isLenV, isOneV, vop, vbin, vbinI, vun, ↓reduceIte, Nat.reduceEqDiff, Nat.reduceAdd, vcells, vcut, cutSK, cutVK, cutNK, fillV, spl, Nat.reduceLeDiff, V.isNil, bne_self_eq_false]
            have hr' : r < 4096 := Nat.lt_of_lt_of_le hr (by
              have : 16 ^ j ≤ 16 ^ 3 := Nat.pow_le_pow_right (by omega) (by omega)
              omega)
            rw [or16 hr' hd]
      · refine indexByte_C ?_
        rw [hex_low c (by simp at h4 h5; omega)]
        simp -implicitDefEqProofs only [wset, tailW, tailEnd, isLenV, isOneV, vop, vbin, vbinI, vun, ↓reduceIte, Nat.reduceEqDiff, Nat.reduceAdd, vcells, vcut, cutSK, cutVK, cutNK, fillV, spl, Nat.reduceLeDiff, V.isNil, bne_self_eq_false]
        cases hv : hexV c with
        | none =>
          have hI : hexI c = -1 := by simp [hexI, hv]
          rw [hI]
          have hm1 : ((-1 : Int) < 0) := by decide
          simp -implicitDefEqProofs only [hm1, wset, tailW, tailEnd, isLenV, isOneV, vop, vbin, vbinI, vun, ↓reduceIte, Nat.reduceEqDiff, Nat.reduceAdd, vcells, vcut, cutSK, cutVK, cutNK, fillV, spl, Nat.reduceLeDiff, V.isNil, bne_self_eq_false]
          have : hexF ds 0 = none := by rw [← hx]; simp [hexF, hv]
          rw [this] at h
          exact .inl h
        | some d =>
          have hI : hexI c = (d : Int) := by simp [hexI, hv]
          have hd := hexV_lt hv
          rw [hI]
          have hn0 : ¬ ((d : Int) < 0) := by omega
          simp -implicitDefEqProofs only [hn0, f4, f20, wset, tailW, tailEnd, isLenV, isOneV, vop, vbin, vbinI, vun, ↓reduceIte, Nat.reduceEqDiff, Nat.reduceAdd, vcells, vcut, cutSK, cutVK, cutNK, fillV, spl, Nat.reduceLeDiff, V.isNil, bne_self_eq_false]
          refine ⟨by omega, 4 - (j + 1), by omega, j + 1, r * 16 + d, by omega, rfl, by rw [Nat.pow_succ]; omega, by rw [← hx]; simp [hexF, hv], ?_, ?_, ?_, ?_, rfl⟩
          · simp [upd, f18]
          · simp [upd, f19]
          · simp [upd]; rw [wrap64 (by omega)]
          · simp -implicitDefEqProofs only [wset, tailW, tailEnd, isLenV, isOneV, vop, vbin, vbinI, vun, ↓reduceIte, Nat.reduceEqDiff, Nat.reduceAdd, vcells, vcut, cutSK, cutVK, cutNK, fillV, spl, Nat.reduceLeDiff, V.isNil, bne_self_eq_false]
            have hr' : r < 4096 := Nat.lt_of_lt_of_le hr (by
              have : 16 ^ j ≤ 16 ^ 3 := Nat.pow_le_pow_right (by omega) (by omega)
              omega)
            rw [or16 hr' hd]
    · refine indexByte_C ?_
      rw [hex_low c (by simp at h4; omega)]
      simp -implicitDefEqProofs only [wset, tailW, tailEnd, isLenV, isOneV, vop, vbin, vbinI, vun, ↓reduceIte, Nat.reduceEqDiff, Nat.reduceAdd, vcells, vcut, cutSK, cutVK, cutNK, fillV, spl, Nat.reduceLeDiff, V.isNil, bne_self_eq_false]
      cases hv : hexV c with
      | none =>
        have hI : hexI c = -1 := by simp [hexI, hv]
        rw [hI]
        have hm1 : ((-1 : Int) < 0) := by decide
        simp -implicitDefEqProofs only [hm1, wset, tailW, tailEnd, isLenV, isOneV, vop, vbin, vbinI, vun, ↓reduceIte, Nat.reduceEqDiff, Nat.reduceAdd, vcells, vcut, cutSK, cutVK, cutNK, fillV, spl, Nat.reduceLeDiff, V.isNil, bne_self_eq_false]
        have : hexF ds 0 = none := by rw [← hx]; simp [hexF, hv]
        rw [this] at h
        exact .inl h
      | some d =>
        have hI : hexI c = (d : Int) := by simp [hexI, hv]
        have hd := hexV_lt hv
        rw [hI]
        have hn0 : ¬ ((d : Int) < 0) := by omega
        simp -implicitDefEqProofs only [hn0, f4, f20, wset, tailW, tailEnd, isLenV, isOneV, vop, vbin, vbinI, vun, ↓reduceIte, Nat.reduceEqDiff, Nat.reduceAdd, vcells, vcut, cutSK, cutVK, cutNK, fillV, spl, Nat.reduceLeDiff, V.isNil, bne_self_eq_false]
        refine ⟨by omega, 4 - (j + 1), by omega, j + 1, r * 16 + d, by omega, rfl, by rw [Nat.pow_succ]; omega, by rw [← hx]; simp [hexF, hv], ?_, ?_, ?_, ?_, rfl⟩
        · simp [upd, f18]
        · simp [upd, f19]
        · simp [upd]; rw [wrap64 (by omega)]
        · simp -implicitDefEqProofs only [wset, tailW, tailEnd, isLenV, isOneV, vop, vbin, vbinI, vun, ↓reduceIte, Nat.reduceEqDiff, Nat.reduceAdd, vcells, vcut, cutSK, cutVK, cutNK, fillV, spl, Nat.reduceLeDiff, V.isNil, bne_self_eq_false]
          have hr' : r < 4096 := Nat.lt_of_lt_of_le hr (by
            have : 16 ^ j ≤ 16 ^ 3 := Nat.pow_le_pow_right (by omega) (by omega)
            omega)
          rw [or16 hr' hd]
  · have h3' : j = 4 := by simp at h3; omega
    simp -implicitDefEqProofs only [h3, f18, f19, f20, f4, wset, tailW, tailEnd, isLenV, isOneV, vop, vbin, vbinI, vun, ↓reduceIte, Nat.reduceEqDiff, Nat.reduceAdd, vcells, vcut, cutSK, cutVK, cutNK, fillV, spl, Nat.reduceLeDiff, V.isNil, bne_self_eq_false]
    subst h3'
    rw [← hx, List.drop_of_length_le (by omega)] at h
    exact .inl h
end Go.Proofs.YtgdcdkgmeomhpaaGreatDoor

namespace Go.Proofs.YtgdcdkgmeomhpaaGreatDoor
open Go Go.Vs
set_option maxRecDepth 20000
attribute [local irreducible] chooseK

/-- A byte of a list, as a number. -/
def bN (l : List UInt8) (i : Nat) : Nat := (l.getD i 0).toNat
theorem bN_lt (l : List UInt8) (i : Nat) : bN l i < 256 := (l.getD i 0).toNat_lt

/-- The rune at the head and its width. -/
def decS (l : List UInt8) : Nat × Nat := Lib.decodeN l.length (bN l 0) (bN l 1) (bN l 2) (bN l 3)

theorem gfirst : gfind Xc.G 4 = some (cells8 firstN) := by rw [XG]; rfl
theorem gaccept : gfind Xc.G 5 = some (cells8 acceptN) := by rw [XG]; rfl
theorem drop_at {l : List V} {n : Nat} {v : V} (h : l[n]? = some v) : List.drop n l = v :: List.drop (n + 1) l := by
  obtain ⟨h1, h2⟩ := List.getElem?_eq_some_iff.1 h
  rw [List.drop_eq_getElem_cons h1, h2]
theorem cells8_at {l : List Nat} {n v : Nat} (h : l[n]? = some v) : (cells8 l)[n]? = some (.int .u8 (v : Int)) := by
  show (l.map _)[n]? = _
  rw [List.getElem?_map, h]; rfl
theorem drop_first (c : UInt8) : List.drop (c.toNat * 1) (cells8 firstN) = .int .u8 (Lib.firstT c.toNat : Nat) :: List.drop (c.toNat + 1) (cells8 firstN) := by
  have := all_u8 (p := fun c => firstN[c.toNat]? == some (Lib.firstT c.toNat)) (by kernel_rfl) c
  rw [Nat.mul_one, drop_at (cells8_at (by simpa using this))]

theorem acc_idx (c : UInt8) : ((Lib.firstT c.toNat : Nat) : Int).fdiv (2 ^ min (Int.toNat 4) (IntKind.bits .u8)) = ((Lib.firstT c.toNat / 16 : Nat) : Int) := by
  have := all_u8 (p := fun c => decide (((Lib.firstT c.toNat : Nat) : Int).fdiv (2 ^ min (Int.toNat 4) (IntKind.bits .u8)) = ((Lib.firstT c.toNat / 16 : Nat) : Int))) (by kernel_rfl) c
  simpa using this
theorem acc_sz (c : UInt8) : IntKind.wrap .i64 (ibits .and .u8 ((Lib.firstT c.toNat : Nat) : Int) 7) = ((Lib.firstT c.toNat % 8 : Nat) : Int) := by
  have := all_u8 (p := fun c => decide (IntKind.wrap .i64 (ibits .and .u8 ((Lib.firstT c.toNat : Nat) : Int) 7) = ((Lib.firstT c.toNat % 8 : Nat) : Int))) (by kernel_rfl) c
  simpa using this
theorem drop_acc (c : UInt8) : List.drop (Lib.firstT c.toNat / 16 * 2) (cells8 acceptN) = .int .u8 (Lib.accLo (Lib.firstT c.toNat / 16) : Nat) :: .int .u8 (Lib.accHi (Lib.firstT c.toNat / 16) : Nat) :: List.drop (Lib.firstT c.toNat / 16 * 2 + 1 + 1) (cells8 acceptN) := by
  have := all_u8 (p := fun c => (acceptN[Lib.firstT c.toNat / 16 * 2]? == some (Lib.accLo (Lib.firstT c.toNat / 16))) && (acceptN[Lib.firstT c.toNat / 16 * 2 + 1]? == some (Lib.accHi (Lib.firstT c.toNat / 16)))) (by kernel_rfl) c
  simp only [Bool.and_eq_true, beq_iff_eq] at this
  rw [drop_at (cells8_at this.1), drop_at (cells8_at this.2)]
theorem first_max (c : UInt8) : Lib.firstT c.toNat ≤ 241 := by
  have := all_u8 (p := fun c => decide (Lib.firstT c.toNat ≤ 241)) (by kernel_rfl) c
  simpa using this
theorem high_rune (c : UInt8) (h : 240 ≤ Lib.firstT c.toNat) : ibits BinOp.or IntKind.i32
                    (ibits BinOp.andNot IntKind.i32 (IntKind.i32.wrap (c.toNat : Int))
                      ((IntKind.i32.wrap
                            (IntKind.i32.wrap ((Lib.firstT c.toNat : Nat) : Int) *
                              2 ^ min (Int.toNat 31) IntKind.i32.bits)).fdiv
                        (2 ^ min (Int.toNat 31) IntKind.i32.bits)))
                    (ibits BinOp.and IntKind.i32 65533
                      ((IntKind.i32.wrap
                            (IntKind.i32.wrap ((Lib.firstT c.toNat : Nat) : Int) *
                              2 ^ min (Int.toNat 31) IntKind.i32.bits)).fdiv
                        (2 ^ min (Int.toNat 31) IntKind.i32.bits))) = ((if Lib.firstT c.toNat = 240 then c.toNat else 65533 : Nat) : Int) := by
  have := all_u8 (p := fun c => !decide (240 ≤ Lib.firstT c.toNat) || decide (ibits BinOp.or IntKind.i32
                    (ibits BinOp.andNot IntKind.i32 (IntKind.i32.wrap (c.toNat : Int))
                      ((IntKind.i32.wrap
                            (IntKind.i32.wrap ((Lib.firstT c.toNat : Nat) : Int) *
                              2 ^ min (Int.toNat 31) IntKind.i32.bits)).fdiv
                        (2 ^ min (Int.toNat 31) IntKind.i32.bits)))
                    (ibits BinOp.and IntKind.i32 65533
                      ((IntKind.i32.wrap
                            (IntKind.i32.wrap ((Lib.firstT c.toNat : Nat) : Int) *
                              2 ^ min (Int.toNat 31) IntKind.i32.bits)).fdiv
                        (2 ^ min (Int.toNat 31) IntKind.i32.bits))) = ((if Lib.firstT c.toNat = 240 then c.toNat else 65533 : Nat) : Int))) (by kernel_rfl) c
  simpa [h] using this

theorem msk7 (l : List UInt8) (i : Nat) : IntKind.wrap .i32 (ibits .and .u8 ((bN l i : Nat) : Int) 7) = ((bN l i % 8 : Nat) : Int) := of_decide_eq_true (all_u8 (p := fun c => decide (IntKind.wrap .i32 (ibits .and .u8 ((c.toNat : Nat) : Int) 7) = ((c.toNat % 8 : Nat) : Int))) (by kernel_rfl) (l.getD i 0))
theorem msk15 (l : List UInt8) (i : Nat) : IntKind.wrap .i32 (ibits .and .u8 ((bN l i : Nat) : Int) 15) = ((bN l i % 16 : Nat) : Int) := of_decide_eq_true (all_u8 (p := fun c => decide (IntKind.wrap .i32 (ibits .and .u8 ((c.toNat : Nat) : Int) 15) = ((c.toNat % 16 : Nat) : Int))) (by kernel_rfl) (l.getD i 0))
theorem msk31 (l : List UInt8) (i : Nat) : IntKind.wrap .i32 (ibits .and .u8 ((bN l i : Nat) : Int) 31) = ((bN l i % 32 : Nat) : Int) := of_decide_eq_true (all_u8 (p := fun c => decide (IntKind.wrap .i32 (ibits .and .u8 ((c.toNat : Nat) : Int) 31) = ((c.toNat % 32 : Nat) : Int))) (by kernel_rfl) (l.getD i 0))
theorem msk63 (l : List UInt8) (i : Nat) : IntKind.wrap .i32 (ibits .and .u8 ((bN l i : Nat) : Int) 63) = ((bN l i % 64 : Nat) : Int) := of_decide_eq_true (all_u8 (p := fun c => decide (IntKind.wrap .i32 (ibits .and .u8 ((c.toNat : Nat) : Int) 63) = ((c.toNat % 64 : Nat) : Int))) (by kernel_rfl) (l.getD i 0))
theorem shm31_6 (l : List UInt8) (i : Nat) : IntKind.wrap .i32 (((bN l i % 32 : Nat) : Int) * 2 ^ min (Int.toNat 6) (IntKind.bits .i32)) = ((bN l i % 32 * 64 : Nat) : Int) := of_decide_eq_true (all_u8 (p := fun c => decide (IntKind.wrap .i32 (((c.toNat % 32 : Nat) : Int) * 2 ^ min (Int.toNat 6) (IntKind.bits .i32)) = ((c.toNat % 32 * 64 : Nat) : Int))) (by kernel_rfl) (l.getD i 0))
theorem shm15_12 (l : List UInt8) (i : Nat) : IntKind.wrap .i32 (((bN l i % 16 : Nat) : Int) * 2 ^ min (Int.toNat 12) (IntKind.bits .i32)) = ((bN l i % 16 * 4096 : Nat) : Int) := of_decide_eq_true (all_u8 (p := fun c => decide (IntKind.wrap .i32 (((c.toNat % 16 : Nat) : Int) * 2 ^ min (Int.toNat 12) (IntKind.bits .i32)) = ((c.toNat % 16 * 4096 : Nat) : Int))) (by kernel_rfl) (l.getD i 0))
theorem shm63_6 (l : List UInt8) (i : Nat) : IntKind.wrap .i32 (((bN l i % 64 : Nat) : Int) * 2 ^ min (Int.toNat 6) (IntKind.bits .i32)) = ((bN l i % 64 * 64 : Nat) : Int) := of_decide_eq_true (all_u8 (p := fun c => decide (IntKind.wrap .i32 (((c.toNat % 64 : Nat) : Int) * 2 ^ min (Int.toNat 6) (IntKind.bits .i32)) = ((c.toNat % 64 * 64 : Nat) : Int))) (by kernel_rfl) (l.getD i 0))
theorem shm7_18 (l : List UInt8) (i : Nat) : IntKind.wrap .i32 (((bN l i % 8 : Nat) : Int) * 2 ^ min (Int.toNat 18) (IntKind.bits .i32)) = ((bN l i % 8 * 262144 : Nat) : Int) := of_decide_eq_true (all_u8 (p := fun c => decide (IntKind.wrap .i32 (((c.toNat % 8 : Nat) : Int) * 2 ^ min (Int.toNat 18) (IntKind.bits .i32)) = ((c.toNat % 8 * 262144 : Nat) : Int))) (by kernel_rfl) (l.getD i 0))
theorem shm63_12 (l : List UInt8) (i : Nat) : IntKind.wrap .i32 (((bN l i % 64 : Nat) : Int) * 2 ^ min (Int.toNat 12) (IntKind.bits .i32)) = ((bN l i % 64 * 4096 : Nat) : Int) := of_decide_eq_true (all_u8 (p := fun c => decide (IntKind.wrap .i32 (((c.toNat % 64 : Nat) : Int) * 2 ^ min (Int.toNat 12) (IntKind.bits .i32)) = ((c.toNat % 64 * 4096 : Nat) : Int))) (by kernel_rfl) (l.getD i 0))
theorem orN {A B : Nat} (i : Nat) (hB : B < 2 ^ i) (hA : A % 2 ^ i = 0) (hlt : A + B < 2147483648) : ibits .or .i32 (A : Int) (B : Int) = ((A + B : Nat) : Int) := by
  have h1 : (BitVec.ofInt 32 (A : Int) ||| BitVec.ofInt 32 (B : Int)).toNat = A + B := by
    rw [BitVec.ofInt_natCast, BitVec.ofInt_natCast, BitVec.toNat_or, BitVec.toNat_ofNat, BitVec.toNat_ofNat, Nat.mod_eq_of_lt (by omega), Nat.mod_eq_of_lt (by omega)]
    have e : A = (A / 2 ^ i) <<< i := by
      rw [Nat.shiftLeft_eq]
      have := Nat.div_add_mod A (2 ^ i)
      rw [hA, Nat.mul_comm] at this
      omega
    have := Nat.shiftLeft_add_eq_or_of_lt hB (A / 2 ^ i)
    rw [← e] at this
    exact this.symm
  show IntKind.wrap .i32 ((BitVec.ofInt 32 (A : Int) ||| BitVec.ofInt 32 (B : Int)).toNat : Int) = _
  rw [h1, wrap32 (by omega)]

/-- Only objects were made, and none of them is told of. -/
theorem exitNew {σ : St} (hw : σ.wf) {xo : List (List V)} {xy : List TypeId} {Q : Out → St → Prop} {out : Out} (hc : out.clean σ.toks.length = out) (hf : out.fits σ.objs.length σ.maps.length σ.toks.length = true) (h : Q out σ) :
    ExitOk σ Q out ⟨σ.objs ++ xo, σ.maps, σ.toks, σ.tys ++ xy, σ.tts⟩ :=
  exitCutO rfl rfl rfl hw.1 hw.2 (by rw [hc]; exact hf) (fun o cs ho => .inl ho) (fun r es hr => .inl hr) (by rw [hc]; exact h)

theorem decodeSlow_C {s : List UInt8} {σ : St} {Q : Out → St → Prop} (hs : s ≠ []) (h : Q (.ret (.tup [.int .i32 ((decS s).1 : Int), .int .i64 ((decS s).2 : Int)])) σ) : C Xc 83 [.str s] σ Q := by
  have hl : 0 < s.length := List.length_pos_iff.2 hs
  refine bodyW cf_decodeRuneSlow (Eq.refl true) fun hw => ?_
  simp -implicitDefEqProofs only [vf_decodeRuneSlow, gfirst, drop_first, wset, tailW, tailEnd, isLenV, isOneV, vop, vbin, vbinI, vun, ↓reduceIte, Nat.reduceEqDiff, Nat.reduceAdd, vcells, vcut, cutSK, cutVK, cutNK, fillV, spl, Nat.reduceLeDiff, V.isNil, bne_self_eq_false]
  refine chooseK_split (fun h1 => ?_) (fun h1 => ?_) <;> simp -implicitDefEqProofs only [h1, gfirst, drop_first, wset, tailW, tailEnd, isLenV, isOneV, vop, vbin, vbinI, vun, ↓reduceIte, Nat.reduceEqDiff, Nat.reduceAdd, vcells, vcut, cutSK, cutVK, cutNK, fillV, spl, Nat.reduceLeDiff, V.isNil, bne_self_eq_false]
  · simp at h1; omega
  refine ⟨by omega, by have := (s.getD (Int.toNat 0) 0).toNat_lt; omega, ?_⟩
  have hc0 : (s.getD (Int.toNat 0) 0).toNat = bN s 0 := rfl
  refine chooseK_split (fun h2 => ?_) (fun h2 => ?_) <;> simp -implicitDefEqProofs only [h2, gaccept, acc_idx, acc_sz, drop_acc, app_get _ _ (Eq.refl σ.objs.length), wset, tailW, tailEnd, isLenV, isOneV, vop, vbin, vbinI, vun, ↓reduceIte, Nat.reduceEqDiff, Nat.reduceAdd, vcells, vcut, cutSK, cutVK, cutNK, fillV, spl, Nat.reduceLeDiff, V.isNil, bne_self_eq_false]
  · have h2' : 240 ≤ Lib.firstT (s.getD (Int.toNat 0) 0).toNat := by simp only [ge_iff_le, decide_eq_true_eq] at h2; omega
    refine ⟨by omega, by omega, by omega, ?_⟩
    rw [high_rune _ h2']
    refine .inl ?_
    have hm := first_max (s.getD (Int.toNat 0) 0)
    have : decS s = (if Lib.firstT (bN s 0) = 240 then bN s 0 else 65533, 1) := by
      unfold decS
      split
      · rename_i h3; exact Lib.ascii_eq _ _ _ _ _ h3
      · rw [hc0] at h2' hm
        exact Lib.bad_eq _ _ _ _ _ (bN_lt s 0) (by omega)
    rw [this] at h
    exact h
  · have h2' : Lib.firstT (s.getD (Int.toNat 0) 0).toNat < 240 := by simp only [ge_iff_le, decide_eq_false_iff_not] at h2; omega
    have hsl : decS s = _ := (Lib.slow_eq s.length (bN s 0) (bN s 1) (bN s 2) (bN s 3) hl (bN_lt s 1) (bN_lt s 2) (bN_lt s 3) h2').symm
    have hc1 : (s.getD (Int.toNat 1) 0).toNat = bN s 1 := rfl
    have hc2 : (s.getD (Int.toNat 2) 0).toNat = bN s 2 := rfl
    have hc3 : (s.getD (Int.toNat 3) 0).toNat = bN s 3 := rfl
    rw [hc0] at h2' ⊢
    rw [hsl] at h
    have hx8 : Lib.firstT (bN s 0) % 8 ≤ 4 := by
      have := all_u8 (p := fun c => !(decide (Lib.firstT c.toNat < 240)) || decide (Lib.firstT c.toNat % 8 ≤ 4)) (by kernel_rfl) (s.getD 0 0)
      rw [show (s.getD 0 0).toNat = bN s 0 from rfl, decide_eq_true h2'] at this
      simpa using this
    have hx2 : 2 ≤ Lib.firstT (bN s 0) % 8 := by
      have := all_u8 (p := fun c => !(decide (Lib.firstT c.toNat < 240)) || decide (2 ≤ Lib.firstT c.toNat % 8)) (by kernel_rfl) (s.getD 0 0)
      rw [show (s.getD 0 0).toNat = bN s 0 from rfl, decide_eq_true h2'] at this
      simpa using this
    generalize Lib.firstT (bN s 0) = x at h h2' hx8 hx2 ⊢
    generalize hL : x % 8 = z at h hx8 hx2 ⊢
    generalize Lib.accLo (x / 16) = lo at h ⊢
    generalize Lib.accHi (x / 16) = hi at h ⊢
    refine ⟨by omega, by omega, ?_⟩
    refine chooseK_split (fun h3 => ?_) (fun h3 => ?_) <;> simp -implicitDefEqProofs only [h3, app_get _ _ (Eq.refl σ.objs.length), app_set _ _ _ (Eq.refl σ.objs.length), hc0, hc1, hc2, hc3, wset, tailW, tailEnd, isLenV, isOneV, vop, vbin, vbinI, vun, ↓reduceIte, Nat.reduceEqDiff, Nat.reduceAdd, vcells, vcut, cutSK, cutVK, cutNK, fillV, spl, Nat.reduceLeDiff, V.isNil, bne_self_eq_false]
    · refine exitNew hw (by rfl) (by rfl) ?_
      simp at h3
      rw [Lib.slowN, if_pos h3] at h
      exact h
    simp at h3
    rw [Lib.slowN, if_neg (by omega)] at h
    refine ⟨by omega, ?_⟩
    have bad1 : ((bN s 1 < lo ∨ hi < bN s 1) → Q (.ret (.tup [.int .i32 65533, .int .i64 1])) σ) := fun hb => by
      rw [if_pos hb] at h; exact h
    refine chooseK_split (fun h4 => ?_) (fun h4 => ?_) <;> simp -implicitDefEqProofs only [h4, app_get _ _ (Eq.refl σ.objs.length), app_set _ _ _ (Eq.refl σ.objs.length), hc0, hc1, hc2, hc3, wset, tailW, tailEnd, isLenV, isOneV, vop, vbin, vbinI, vun, ↓reduceIte, Nat.reduceEqDiff, Nat.reduceAdd, vcells, vcut, cutSK, cutVK, cutNK, fillV, spl, Nat.reduceLeDiff, V.isNil, bne_self_eq_false]
    · exact exitNew hw (by rfl) (by rfl) (bad1 (.inl (by simpa using h4)))
    refine chooseK_split (fun h5 => ?_) (fun h5 => ?_) <;> simp -implicitDefEqProofs only [h5, app_get _ _ (Eq.refl σ.objs.length), app_set _ _ _ (Eq.refl σ.objs.length), hc0, hc1, hc2, hc3, wset, tailW, tailEnd, isLenV, isOneV, vop, vbin, vbinI, vun, ↓reduceIte, Nat.reduceEqDiff, Nat.reduceAdd, vcells, vcut, cutSK, cutVK, cutNK, fillV, spl, Nat.reduceLeDiff, V.isNil, bne_self_eq_false]
    · exact exitNew hw (by rfl) (by rfl) (bad1 (.inr (by simpa using h5)))
    simp at h4 h5
    rw [if_neg (by omega)] at h
    refine chooseK_split (fun h6 => ?_) (fun h6 => ?_) <;> simp -implicitDefEqProofs only [h6, app_get _ _ (Eq.refl σ.objs.length), app_set _ _ _ (Eq.refl σ.objs.length), hc0, hc1, hc2, hc3, wset, tailW, tailEnd, isLenV, isOneV, vop, vbin, vbinI, vun, ↓reduceIte, Nat.reduceEqDiff, Nat.reduceAdd, vcells, vcut, cutSK, cutVK, cutNK, fillV, spl, Nat.reduceLeDiff, V.isNil, bne_self_eq_false]
    · simp at h6
      rw [if_pos (by omega)] at h
      rw [msk31, msk63, shm31_6, orN 6 (by omega) (by omega) (by omega)]
      exact ⟨by omega, exitNew hw (by rfl) (by rfl) h⟩
    simp at h6
    rw [if_neg (by omega)] at h
    refine ⟨by omega, ?_⟩
    have bad2 : ((bN s 2 < 128 ∨ 191 < bN s 2) → Q (.ret (.tup [.int .i32 65533, .int .i64 1])) σ) := fun hb => by
      rw [if_pos hb] at h; exact h
    refine chooseK_split (fun h7 => ?_) (fun h7 => ?_) <;> simp -implicitDefEqProofs only [h7, app_get _ _ (Eq.refl σ.objs.length), app_set _ _ _ (Eq.refl σ.objs.length), hc0, hc1, hc2, hc3, wset, tailW, tailEnd, isLenV, isOneV, vop, vbin, vbinI, vun, ↓reduceIte, Nat.reduceEqDiff, Nat.reduceAdd, vcells, vcut, cutSK, cutVK, cutNK, fillV, spl, Nat.reduceLeDiff, V.isNil, bne_self_eq_false]
    · exact exitNew hw (by rfl) (by rfl) (bad2 (.inl (by simp at h7; omega)))
    refine chooseK_split (fun h8 => ?_) (fun h8 => ?_) <;> simp -implicitDefEqProofs only [h8, app_get _ _ (Eq.refl σ.objs.length), app_set _ _ _ (Eq.refl σ.objs.length), hc0, hc1, hc2, hc3, wset, tailW, tailEnd, isLenV, isOneV, vop, vbin, vbinI, vun, ↓reduceIte, Nat.reduceEqDiff, Nat.reduceAdd, vcells, vcut, cutSK, cutVK, cutNK, fillV, spl, Nat.reduceLeDiff, V.isNil, bne_self_eq_false]
    · exact exitNew hw (by rfl) (by rfl) (bad2 (.inr (by simp at h8; omega)))
    simp at h7 h8
    rw [if_neg (by omega)] at h
    refine chooseK_split (fun h9 => ?_) (fun h9 => ?_) <;> simp -implicitDefEqProofs only [h9, app_get _ _ (Eq.refl σ.objs.length), app_set _ _ _ (Eq.refl σ.objs.length), hc0, hc1, hc2, hc3, wset, tailW, tailEnd, isLenV, isOneV, vop, vbin, vbinI, vun, ↓reduceIte, Nat.reduceEqDiff, Nat.reduceAdd, vcells, vcut, cutSK, cutVK, cutNK, fillV, spl, Nat.reduceLeDiff, V.isNil, bne_self_eq_false]
    · simp at h9
      rw [if_pos (by omega)] at h
      rw [msk15, msk63, msk63, shm15_12, shm63_6, orN 12 (by omega) (by omega) (by omega), orN 6 (by omega) (by omega) (by omega)]
      exact ⟨by omega, by omega, exitNew hw (by rfl) (by rfl) h⟩
    simp at h9
    rw [if_neg (by omega)] at h
    refine ⟨by omega, ?_⟩
    have bad3 : ((bN s 3 < 128 ∨ 191 < bN s 3) → Q (.ret (.tup [.int .i32 65533, .int .i64 1])) σ) := fun hb => by
      rw [if_pos hb] at h; exact h
    refine chooseK_split (fun h10 => ?_) (fun h10 => ?_) <;> simp -implicitDefEqProofs only [h10, app_get _ _ (Eq.refl σ.objs.length), app_set _ _ _ (Eq.refl σ.objs.length), hc0, hc1, hc2, hc3, wset, tailW, tailEnd, isLenV, isOneV, vop, vbin, vbinI, vun, ↓reduceIte, Nat.reduceEqDiff, Nat.reduceAdd, vcells, vcut, cutSK, cutVK, cutNK, fillV, spl, Nat.reduceLeDiff, V.isNil, bne_self_eq_false]
    · exact exitNew hw (by rfl) (by rfl) (bad3 (.inl (by simp at h10; omega)))
    refine chooseK_split (fun h11 => ?_) (fun h11 => ?_) <;> simp -implicitDefEqProofs only [h11, app_get _ _ (Eq.refl σ.objs.length), app_set _ _ _ (Eq.refl σ.objs.length), hc0, hc1, hc2, hc3, wset, tailW, tailEnd, isLenV, isOneV, vop, vbin, vbinI, vun, ↓reduceIte, Nat.reduceEqDiff, Nat.reduceAdd, vcells, vcut, cutSK, cutVK, cutNK, fillV, spl, Nat.reduceLeDiff, V.isNil, bne_self_eq_false]
    · exact exitNew hw (by rfl) (by rfl) (bad3 (.inr (by simp at h11; omega)))
    simp at h10 h11
    rw [if_neg (by omega)] at h
    rw [msk7, msk63, msk63, msk63, shm7_18, shm63_12, shm63_6, orN 18 (by omega) (by omega) (by omega), orN 12 (by omega) (by omega) (by omega), orN 6 (by omega) (by omega) (by omega)]
    exact ⟨by omega, by omega, by omega, exitNew hw (by rfl) (by rfl) h⟩

theorem decodeRune_C {s : List UInt8} {σ : St} {Q : Out → St → Prop} (hs : s ≠ []) (h : Q (.ret (.tup [.int .i32 ((decS s).1 : Int), .int .i64 ((decS s).2 : Int)])) σ) : C Xc 71 [.str s] σ Q := by
  have hl : 0 < s.length := List.length_pos_iff.2 hs
  have hb : (s == []) = false := by simpa using hs
  have hn : (s != []) = true := by simpa using hs
  refine body cf_decodeRune (Eq.refl true) ?_
  simp -implicitDefEqProofs only [vf_decodeRune, hb, hn, wset, tailW, tailEnd, isLenV, isOneV, vop, vbin, vbinI, vun, ↓reduceIte, Nat.reduceEqDiff, Nat.reduceAdd, vcells, vcut, cutSK, cutVK, cutNK, fillV, spl, Nat.reduceLeDiff, V.isNil, bne_self_eq_false]
  refine ⟨by omega, ?_⟩
  have hc0 : (s.getD (Int.toNat 0) 0).toNat = bN s 0 := rfl
  refine chooseK_split (fun h1 => ?_) (fun h1 => ?_) <;> simp -implicitDefEqProofs only [h1, hc0, wset, tailW, tailEnd, isLenV, isOneV, vop, vbin, vbinI, vun, ↓reduceIte, Nat.reduceEqDiff, Nat.reduceAdd, vcells, vcut, cutSK, cutVK, cutNK, fillV, spl, Nat.reduceLeDiff, V.isNil, bne_self_eq_false]
  · have h1' : bN s 0 < 128 := by simp only [hc0, decide_eq_true_eq] at h1; omega
    refine ⟨by omega, .inl ?_⟩
    have : decS s = (bN s 0, 1) := by simp [decS, Lib.decodeN, h1']
    rw [this] at h
    rw [wrap32 (by omega)]
    exact h
  · refine decodeSlow_C hs ?_
    simp -implicitDefEqProofs only [wset, tailW, tailEnd, isLenV, isOneV, vop, vbin, vbinI, vun, ↓reduceIte, Nat.reduceEqDiff, Nat.reduceAdd, vcells, vcut, cutSK, cutVK, cutNK, fillV, spl, Nat.reduceLeDiff, V.isNil, bne_self_eq_false]
    exact .inl h

/-- The rune at the head and its width; (0, 0) where there is none. -/
def decT (l : List UInt8) : Nat × Nat := if l = [] then (0, 0) else if decS l = (65533, 1) then (0, 0) else decS l

theorem decode_C {s : List UInt8} {i : Int} {σ : St} {Q : Out → St → Prop} (hi : 0 ≤ i) (hs : s.length ≤ big) (h : Q (.ret (.tup [.int .i32 ((decT (s.drop i.toNat)).1 : Int), .int .i64 ((decT (s.drop i.toNat)).2 : Int)])) σ) : C Xc 57 [.str s, .int .i64 i] σ Q := by
  refine body cf_decode (Eq.refl true) ?_
  simp -implicitDefEqProofs only [vf_decode, wset, tailW, tailEnd, isLenV, isOneV, vop, vbin, vbinI, vun, ↓reduceIte, Nat.reduceEqDiff, Nat.reduceAdd, vcells, vcut, cutSK, cutVK, cutNK, fillV, spl, Nat.reduceLeDiff, V.isNil, bne_self_eq_false]
  have h0 : decide (i < 0) = false := by simpa using hi
  simp -implicitDefEqProofs only [h0, wset, tailW, tailEnd, isLenV, isOneV, vop, vbin, vbinI, vun, ↓reduceIte, Nat.reduceEqDiff, Nat.reduceAdd, vcells, vcut, cutSK, cutVK, cutNK, fillV, spl, Nat.reduceLeDiff, V.isNil, bne_self_eq_false]
  refine chooseK_split (fun h1 => ?_) (fun h1 => ?_) <;> simp -implicitDefEqProofs only [h1, wset, tailW, tailEnd, isLenV, isOneV, vop, vbin, vbinI, vun, ↓reduceIte, Nat.reduceEqDiff, Nat.reduceAdd, vcells, vcut, cutSK, cutVK, cutNK, fillV, spl, Nat.reduceLeDiff, V.isNil, bne_self_eq_false]
  · have : s.drop i.toNat = [] := by rw [List.drop_eq_nil_iff]; simp at h1; omega
    rw [decT, if_pos this] at h
    exact .inl h
  have h1' : i.toNat < s.length := by simp at h1; omega
  refine ⟨by omega, ?_⟩
  simp -implicitDefEqProofs only [cut_drop, wset, tailW, tailEnd, isLenV, isOneV, vop, vbin, vbinI, vun, ↓reduceIte, Nat.reduceEqDiff, Nat.reduceAdd, vcells, vcut, cutSK, cutVK, cutNK, fillV, spl, Nat.reduceLeDiff, V.isNil, bne_self_eq_false]
  have hne : s.drop i.toNat ≠ [] := by rw [Ne, List.drop_eq_nil_iff]; omega
  refine decodeRune_C hne ?_
  simp -implicitDefEqProofs only [wset, tailW, tailEnd, isLenV, isOneV, vop, vbin, vbinI, vun, ↓reduceIte, Nat.reduceEqDiff, Nat.reduceAdd, vcells, vcut, cutSK, cutVK, cutNK, fillV, spl, Nat.reduceLeDiff, V.isNil, bne_self_eq_false]
  rw [decT, if_neg hne] at h
  refine chooseK_split (fun h2 => ?_) (fun h2 => ?_) <;> simp -implicitDefEqProofs only [h2, wset, tailW, tailEnd, isLenV, isOneV, vop, vbin, vbinI, vun, ↓reduceIte, Nat.reduceEqDiff, Nat.reduceAdd, vcells, vcut, cutSK, cutVK, cutNK, fillV, spl, Nat.reduceLeDiff, V.isNil, bne_self_eq_false]
  · refine chooseK_split (fun h3 => ?_) (fun h3 => ?_) <;> simp -implicitDefEqProofs only [h3, wset, tailW, tailEnd, isLenV, isOneV, vop, vbin, vbinI, vun, ↓reduceIte, Nat.reduceEqDiff, Nat.reduceAdd, vcells, vcut, cutSK, cutVK, cutNK, fillV, spl, Nat.reduceLeDiff, V.isNil, bne_self_eq_false]
    · rw [if_pos (Prod.ext (by simp at h2; omega) (by simp at h3; omega))] at h
      exact .inl h
    · rw [if_neg (fun e => by rw [e] at h3; simp at h3)] at h
      exact .inl h
  · rw [if_neg (fun e => by rw [e] at h2; simp at h2)] at h
    exact .inl h
end Go.Proofs.YtgdcdkgmeomhpaaGreatDoor

namespace Go.Proofs.YtgdcdkgmeomhpaaGreatDoor
open Go Go.Vs
set_option maxRecDepth 20000
attribute [local irreducible] chooseK

/-- The byte that a letter stands for. -/
def letV (c : Nat) : Option Nat := if c = 98 then some 8 else if c = 102 then some 12 else if c = 110 then some 10 else if c = 114 then some 13 else if c = 116 then some 9 else none

/-- The rune of an escape sequence and its length; (0, 0) where it is none. -/
def seqS (s : List UInt8) : Nat × Nat :=
  if bN s 1 = 34 ∨ bN s 1 = 92 ∨ bN s 1 = 47 then (bN s 1, 2)
  else match letV (bN s 1) with
    | some v => (v, 2)
    | none => match unitS s with
      | none => (0, 0)
      | some r => if 56320 ≤ r ∧ r ≤ 57343 then (0, 0) else if r < 55296 ∨ 57343 < r then (r, 6)
        else match unitS (s.drop 6) with
          | none => (0, 0)
          | some l => if l < 56320 ∨ 57343 < l then (0, 0) else ((r - 55296) * 1024 + (l - 56320) + 65536, 12)

theorem hexF_lt : ∀ (l : List UInt8) (a n : Nat), hexF l a = some n → n < (a + 1) * 16 ^ l.length
  | [], a, n, h => by simp only [hexF, Option.some.injEq] at h; subst h; simp
  | c :: r, a, n, h => by
    simp only [hexF] at h
    split at h
    · rename_i d hd
      have h1 := hexF_lt r _ n h
      have h2 := hexV_lt hd
      have : (a * 16 + d + 1) * 16 ^ r.length ≤ ((a + 1) * 16) * 16 ^ r.length := Nat.mul_le_mul_right _ (by omega)
      rw [List.length_cons, Nat.pow_succ, Nat.mul_comm (16 ^ r.length) 16, ← Nat.mul_assoc]
      omega
    · cases h
theorem unitS_lt {s : List UInt8} {n : Nat} (h : unitS s = some n) : n < 65536 := by
  unfold unitS at h
  split at h
  · rename_i hs
    have h1 := hexF_lt _ _ _ h
    have h2 : ((s.drop 2).take 4).length = 4 := by simp; omega
    rw [h2] at h1
    omega
  · cases h
theorem unitS_len {s : List UInt8} {n : Nat} (h : unitS s = some n) : 6 ≤ s.length := by
  unfold unitS at h
  split at h
  · rename_i hs; exact hs.1
  · cases h

theorem wrap32z {n : Int} (h : -2147483648 ≤ n ∧ n ≤ 2147483647) : IntKind.wrap .i32 n = n := by
  simp only [IntKind.wrap, IntKind.bits, IntKind.signed, Bool.true_and]
  split <;> simp_all <;> omega

theorem gletters : gfind Xc.G 0 = some (cells8 lettersN) := by rw [XG]; rfl
theorem lcells : cells8 lettersN = [.int .u8 98, .int .u8 8, .int .u8 102, .int .u8 12, .int .u8 110, .int .u8 10, .int .u8 114, .int .u8 13, .int .u8 116, .int .u8 9] := rfl

theorem seq_C {s : List UInt8} {σ : St} {Q : Out → St → Prop} (hl : 2 ≤ s.length) (hs : s.length ≤ big) (h : Q (.ret (.tup [.int .i32 ((seqS s).1 : Int), .int .i64 ((seqS s).2 : Int)])) σ) : C Xc 59 [.str s] σ Q := by
  refine bodyW cf_jsSequence (Eq.refl true) fun hw => ?_
  have hc1 : (s.getD (Int.toNat 1) 0).toNat = bN s 1 := rfl
  have hb1 := bN_lt s 1
  simp -implicitDefEqProofs only [vf_jsSequence, hc1, wset, tailW, tailEnd, isLenV, isOneV, vop, vbin, vbinI, vun, ↓reduceIte, Nat.reduceEqDiff, Nat.reduceAdd, vcells, vcut, cutSK, cutVK, cutNK, fillV, spl, Nat.reduceLeDiff, V.isNil, bne_self_eq_false]
  refine ⟨by omega, ?_⟩
  have q : (bN s 1 = 34 ∨ bN s 1 = 92 ∨ bN s 1 = 47) → Q (.ret (.tup [.int .i32 (IntKind.wrap .i32 (bN s 1 : Int)), .int .i64 2])) σ := fun hq => by
    rw [seqS, if_pos hq] at h
    rw [wrap32 (by omega)]
    exact h
  refine chooseK_split (fun h1 => ?_) (fun h1 => ?_) <;> simp -implicitDefEqProofs only [h1, wset, tailW, tailEnd, isLenV, isOneV, vop, vbin, vbinI, vun, ↓reduceIte, Nat.reduceEqDiff, Nat.reduceAdd, vcells, vcut, cutSK, cutVK, cutNK, fillV, spl, Nat.reduceLeDiff, V.isNil, bne_self_eq_false]
  · exact .inl (q (.inl (by simp at h1; omega)))
  refine chooseK_split (fun h2 => ?_) (fun h2 => ?_) <;> simp -implicitDefEqProofs only [h2, wset, tailW, tailEnd, isLenV, isOneV, vop, vbin, vbinI, vun, ↓reduceIte, Nat.reduceEqDiff, Nat.reduceAdd, vcells, vcut, cutSK, cutVK, cutNK, fillV, spl, Nat.reduceLeDiff, V.isNil, bne_self_eq_false]
  · exact .inl (q (.inr (.inl (by simp at h2; omega))))
  refine chooseK_split (fun h3 => ?_) (fun h3 => ?_) <;> simp -implicitDefEqProofs only [h3, wset, tailW, tailEnd, isLenV, isOneV, vop, vbin, vbinI, vun, ↓reduceIte, Nat.reduceEqDiff, Nat.reduceAdd, vcells, vcut, cutSK, cutVK, cutNK, fillV, spl, Nat.reduceLeDiff, V.isNil, bne_self_eq_false]
  · exact .inl (q (.inr (.inr (by simp at h3; omega))))
  have hq : ¬ (bN s 1 = 34 ∨ bN s 1 = 92 ∨ bN s 1 = 47) := by simp at h1 h2 h3; omega
  rw [seqS, if_neg hq] at h
  clear q hq
  simp -implicitDefEqProofs only [gletters, lcells, wset, tailW, tailEnd, isLenV, isOneV, vop, vbin, vbinI, vun, ↓reduceIte, Nat.reduceEqDiff, Nat.reduceAdd, vcells, vcut, cutSK, cutVK, cutNK, fillV, spl, Nat.reduceLeDiff, V.isNil, bne_self_eq_false]
  refine LoopP.intro (fun n fr σ' => ∃ (j : Nat) (xs : List (List V)) (ys : List TypeId), j ≤ 5 ∧ n = 5 - j ∧ (∀ i, i < j → lettersN.getD (2 * i) 0 ≠ bN s 1) ∧ fr 0 = .str s ∧ fr 4 = .int .u8 (bN s 1 : Int) ∧ fr 24 = .agg [.int .u8 98, .int .u8 8, .int .u8 102, .int .u8 12, .int .u8 110, .int .u8 10, .int .u8 114, .int .u8 13, .int .u8 116, .int .u8 9] ∧ fr 25 = .int .i64 (j : Int) ∧ σ' = ⟨σ.objs ++ xs, σ.maps, σ.toks, σ.tys ++ ys, σ.tts⟩) 5
    ⟨0, [], [], by omega, rfl, fun i hi => by omega, by simp -implicitDefEqProofs only [wset, tailW, tailEnd, isLenV, isOneV, vop, vbin, vbinI, vun, ↓reduceIte, Nat.reduceEqDiff, Nat.reduceAdd, vcells, vcut, cutSK, cutVK, cutNK, fillV, spl, Nat.reduceLeDiff, V.isNil, bne_self_eq_false], by simp -implicitDefEqProofs only [wset, tailW, tailEnd, isLenV, isOneV, vop, vbin, vbinI, vun, ↓reduceIte, Nat.reduceEqDiff, Nat.reduceAdd, vcells, vcut, cutSK, cutVK, cutNK, fillV, spl, Nat.reduceLeDiff, V.isNil, bne_self_eq_false], by simp -implicitDefEqProofs only [wset, tailW, tailEnd, isLenV, isOneV, vop, vbin, vbinI, vun, ↓reduceIte, Nat.reduceEqDiff, Nat.reduceAdd, vcells, vcut, cutSK, cutVK, cutNK, fillV, spl, Nat.reduceLeDiff, V.isNil, bne_self_eq_false], by simp -implicitDefEqProofs only [wset, tailW, tailEnd, isLenV, isOneV, vop, vbin, vbinI, vun, ↓reduceIte, Nat.reduceEqDiff, Nat.reduceAdd, vcells, vcut, cutSK, cutVK, cutNK, fillV, spl, Nat.reduceLeDiff, V.isNil, bne_self_eq_false]; rfl, by simp⟩ ?_
  rintro n fr σ' ⟨j, xs, ys, hj, rfl, hno, f0, f4, f24, f25, rfl⟩
  have hxl : (σ.objs ++ xs).length = σ.objs.length + xs.length := List.length_append
  have hj' : j = 0 ∨ j = 1 ∨ j = 2 ∨ j = 3 ∨ j = 4 ∨ j = 5 := by omega
  rcases hj' with rfl | rfl | rfl | rfl | rfl | rfl
  · have f25' : fr 25 = .int .i64 0 := f25
    have n1 : decide ((0 : Int) < 5) = true := rfl
    have n2 : Int.toNat 0 * 2 = 0 := rfl
    have n3 : Int.toNat 0 = 0 := rfl
    have n4 : Int.toNat 1 = 1 := rfl
    simp -implicitDefEqProofs only [f0, f4, f24, f25', n1, n2, n3, n4, app_get _ _ hxl, app_set _ _ _ hxl, Nat.zero_mul, Nat.one_mul, wset, tailW, tailEnd, isLenV, isOneV, vop, vbin, vbinI, vun, ↓reduceIte, Nat.reduceEqDiff, Nat.reduceAdd, vcells, vcut, cutSK, cutVK, cutNK, fillV, spl, Nat.reduceLeDiff, V.isNil, bne_self_eq_false]
    refine ⟨by omega, by omega, ?_⟩
    refine chooseK_split (fun g => ?_) (fun g => ?_) <;> simp -implicitDefEqProofs only [g, f0, f4, f24, f25', n1, n2, n3, n4, app_get _ _ hxl, app_set _ _ _ hxl, Nat.zero_mul, Nat.one_mul, wset, tailW, tailEnd, isLenV, isOneV, vop, vbin, vbinI, vun, ↓reduceIte, Nat.reduceEqDiff, Nat.reduceAdd, vcells, vcut, cutSK, cutVK, cutNK, fillV, spl, Nat.reduceLeDiff, V.isNil, bne_self_eq_false]
    · have hb : bN s 1 = 98 := by simp at g; omega
      rw [show letV (bN s 1) = some 8 from by rw [hb]; rfl] at h
      rw [List.append_assoc, List.append_assoc]
      exact ⟨by omega, exitNew hw (by rfl) (by rfl) h⟩
    · have hb : bN s 1 ≠ 98 := by simp at g; omega
      refine ⟨5 - 1, by omega, 1, xs ++ [_], ys ++ [_], by omega, rfl, fun i hi => ?_, by simp -implicitDefEqProofs only [f0, wset, tailW, tailEnd, isLenV, isOneV, vop, vbin, vbinI, vun, ↓reduceIte, Nat.reduceEqDiff, Nat.reduceAdd, vcells, vcut, cutSK, cutVK, cutNK, fillV, spl, Nat.reduceLeDiff, V.isNil, bne_self_eq_false], by simp -implicitDefEqProofs only [f4, wset, tailW, tailEnd, isLenV, isOneV, vop, vbin, vbinI, vun, ↓reduceIte, Nat.reduceEqDiff, Nat.reduceAdd, vcells, vcut, cutSK, cutVK, cutNK, fillV, spl, Nat.reduceLeDiff, V.isNil, bne_self_eq_false], by simp -implicitDefEqProofs only [f24, wset, tailW, tailEnd, isLenV, isOneV, vop, vbin, vbinI, vun, ↓reduceIte, Nat.reduceEqDiff, Nat.reduceAdd, vcells, vcut, cutSK, cutVK, cutNK, fillV, spl, Nat.reduceLeDiff, V.isNil, bne_self_eq_false], by simp -implicitDefEqProofs only [f25', wset, tailW, tailEnd, isLenV, isOneV, vop, vbin, vbinI, vun, ↓reduceIte, Nat.reduceEqDiff, Nat.reduceAdd, vcells, vcut, cutSK, cutVK, cutNK, fillV, spl, Nat.reduceLeDiff, V.isNil, bne_self_eq_false]; rfl, by rw [List.append_assoc, List.append_assoc]⟩
      by_cases e : i = 0
      · subst e; exact fun hh => hb (hh.symm)
      · exact hno i (by omega)
  · have f25' : fr 25 = .int .i64 1 := f25
    have n1 : decide ((1 : Int) < 5) = true := rfl
    have n2 : Int.toNat 1 * 2 = 2 := rfl
    have n3 : Int.toNat 0 = 0 := rfl
    have n4 : Int.toNat 1 = 1 := rfl
    simp -implicitDefEqProofs only [f0, f4, f24, f25', n1, n2, n3, n4, app_get _ _ hxl, app_set _ _ _ hxl, Nat.zero_mul, Nat.one_mul, wset, tailW, tailEnd, isLenV, isOneV, vop, vbin, vbinI, vun, ↓reduceIte, Nat.reduceEqDiff, Nat.reduceAdd, vcells, vcut, cutSK, cutVK, cutNK, fillV, spl, Nat.reduceLeDiff, V.isNil, bne_self_eq_false]
    refine ⟨by omega, by omega, ?_⟩
    refine chooseK_split (fun g => ?_) (fun g => ?_) <;> simp -implicitDefEqProofs only [g, f0, f4, f24, f25', n1, n2, n3, n4, app_get _ _ hxl, app_set _ _ _ hxl, Nat.zero_mul, Nat.one_mul, wset, tailW, tailEnd, isLenV, isOneV, vop, vbin, vbinI, vun, ↓reduceIte, Nat.reduceEqDiff, Nat.reduceAdd, vcells, vcut, cutSK, cutVK, cutNK, fillV, spl, Nat.reduceLeDiff, V.isNil, bne_self_eq_false]
    · have hb : bN s 1 = 102 := by simp at g; omega
      rw [show letV (bN s 1) = some 12 from by rw [hb]; rfl] at h
      rw [List.append_assoc, List.append_assoc]
      exact ⟨by omega, exitNew hw (by rfl) (by rfl) h⟩
    · have hb : bN s 1 ≠ 102 := by simp at g; omega
      refine ⟨5 - 2, by omega, 2, xs ++ [_], ys ++ [_], by omega, rfl, fun i hi => ?_, by simp -implicitDefEqProofs only [f0, wset, tailW, tailEnd, isLenV, isOneV, vop, vbin, vbinI, vun, ↓reduceIte, Nat.reduceEqDiff, Nat.reduceAdd, vcells, vcut, cutSK, cutVK, cutNK, fillV, spl, Nat.reduceLeDiff, V.isNil, bne_self_eq_false], by simp -implicitDefEqProofs only [f4, wset, tailW, tailEnd, isLenV, isOneV, vop, vbin, vbinI, vun, ↓reduceIte, Nat.reduceEqDiff, Nat.reduceAdd, vcells, vcut, cutSK, cutVK, cutNK, fillV, spl, Nat.reduceLeDiff, V.isNil, bne_self_eq_false], by simp -implicitDefEqProofs only [f24, wset, tailW, tailEnd, isLenV, isOneV, vop, vbin, vbinI, vun, ↓reduceIte, Nat.reduceEqDiff, Nat.reduceAdd, vcells, vcut, cutSK, cutVK, cutNK, fillV, spl, Nat.reduceLeDiff, V.isNil, bne_self_eq_false], by simp -implicitDefEqProofs only [f25', wset, tailW, tailEnd, isLenV, isOneV, vop, vbin, vbinI, vun, ↓reduceIte, Nat.reduceEqDiff, Nat.reduceAdd, vcells, vcut, cutSK, cutVK, cutNK, fillV, spl, Nat.reduceLeDiff, V.isNil, bne_self_eq_false]; rfl, by rw [List.append_assoc, List.append_assoc]⟩
      by_cases e : i = 1
      · subst e; exact fun hh => hb (hh.symm)
      · exact hno i (by omega)
  · have f25' : fr 25 = .int .i64 2 := f25
    have n1 : decide ((2 : Int) < 5) = true := rfl
    have n2 : Int.toNat 2 * 2 = 4 := rfl
    have n3 : Int.toNat 0 = 0 := rfl
    have n4 : Int.toNat 1 = 1 := rfl
    simp -implicitDefEqProofs only [f0, f4, f24, f25', n1, n2, n3, n4, app_get _ _ hxl, app_set _ _ _ hxl, Nat.zero_mul, Nat.one_mul, wset, tailW, tailEnd, isLenV, isOneV, vop, vbin, vbinI, vun, ↓reduceIte, Nat.reduceEqDiff, Nat.reduceAdd, vcells, vcut, cutSK, cutVK, cutNK, fillV, spl, Nat.reduceLeDiff, V.isNil, bne_self_eq_false]
    refine ⟨by omega, by omega, ?_⟩
    refine chooseK_split (fun g => ?_) (fun g => ?_) <;> simp -implicitDefEqProofs only [g, f0, f4, f24, f25', n1, n2, n3, n4, app_get _ _ hxl, app_set _ _ _ hxl, Nat.zero_mul, Nat.one_mul, wset, tailW, tailEnd, isLenV, isOneV, vop, vbin, vbinI, vun, ↓reduceIte, Nat.reduceEqDiff, Nat.reduceAdd, vcells, vcut, cutSK, cutVK, cutNK, fillV, spl, Nat.reduceLeDiff, V.isNil, bne_self_eq_false]
    · have hb : bN s 1 = 110 := by simp at g; omega
      rw [show letV (bN s 1) = some 10 from by rw [hb]; rfl] at h
      rw [List.append_assoc, List.append_assoc]
      exact ⟨by omega, exitNew hw (by rfl) (by rfl) h⟩
    · have hb : bN s 1 ≠ 110 := by simp at g; omega
      refine ⟨5 - 3, by omega, 3, xs ++ [_], ys ++ [_], by omega, rfl, fun i hi => ?_, by simp -implicitDefEqProofs only [f0, wset, tailW, tailEnd, isLenV, isOneV, vop, vbin, vbinI, vun, ↓reduceIte, Nat.reduceEqDiff, Nat.reduceAdd, vcells, vcut, cutSK, cutVK, cutNK, fillV, spl, Nat.reduceLeDiff, V.isNil, bne_self_eq_false], by simp -implicitDefEqProofs only [f4, wset, tailW, tailEnd, isLenV, isOneV, vop, vbin, vbinI, vun, ↓reduceIte, Nat.reduceEqDiff, Nat.reduceAdd, vcells, vcut, cutSK, cutVK, cutNK, fillV, spl, Nat.reduceLeDiff, V.isNil, bne_self_eq_false], by simp -implicitDefEqProofs only [f24, wset, tailW, tailEnd, isLenV, isOneV, vop, vbin, vbinI, vun, ↓reduceIte, Nat.reduceEqDiff, Nat.reduceAdd, vcells, vcut, cutSK, cutVK, cutNK, fillV, spl, Nat.reduceLeDiff, V.isNil, bne_self_eq_false], by simp -implicitDefEqProofs only [f25', wset, tailW, tailEnd, isLenV, isOneV, vop, vbin, vbinI, vun, ↓reduceIte, Nat.reduceEqDiff, Nat.reduceAdd, vcells, vcut, cutSK, cutVK, cutNK, fillV, spl, Nat.reduceLeDiff, V.isNil, bne_self_eq_false]; rfl, by rw [List.append_assoc, List.append_assoc]⟩
      by_cases e : i = 2
      · subst e; exact fun hh => hb (hh.symm)
      · exact hno i (by omega)
  · have f25' : fr 25 = .int .i64 3 := f25
    have n1 : decide ((3 : Int) < 5) = true := rfl
    have n2 : Int.toNat 3 * 2 = 6 := rfl
    have n3 : Int.toNat 0 = 0 := rfl
    have n4 : Int.toNat 1 = 1 := rfl
    simp -implicitDefEqProofs only [f0, f4, f24, f25', n1, n2, n3, n4, app_get _ _ hxl, app_set _ _ _ hxl, Nat.zero_mul, Nat.one_mul, wset, tailW, tailEnd, isLenV, isOneV, vop, vbin, vbinI, vun, ↓reduceIte, Nat.reduceEqDiff, Nat.reduceAdd, vcells, vcut, cutSK, cutVK, cutNK, fillV, spl, Nat.reduceLeDiff, V.isNil, bne_self_eq_false]
    refine ⟨by omega, by omega, ?_⟩
    refine chooseK_split (fun g => ?_) (fun g => ?_) <;> simp -implicitDefEqProofs only [g, f0, f4, f24, f25', n1, n2, n3, n4, app_get _ _ hxl, app_set _ _ _ hxl, Nat.zero_mul, Nat.one_mul, wset, tailW, tailEnd, isLenV, isOneV, vop, vbin, vbinI, vun, ↓reduceIte, Nat.reduceEqDiff, Nat.reduceAdd, vcells, vcut, cutSK, cutVK, cutNK, fillV, spl, Nat.reduceLeDiff, V.isNil, bne_self_eq_false]
    · have hb : bN s 1 = 114 := by simp at g; omega
      rw [show letV (bN s 1) = some 13 from by rw [hb]; rfl] at h
      rw [List.append_assoc, List.append_assoc]
      exact ⟨by omega, exitNew hw (by rfl) (by rfl) h⟩
    · have hb : bN s 1 ≠ 114 := by simp at g; omega
      refine ⟨5 - 4, by omega, 4, xs ++ [_], ys ++ [_], by omega, rfl, fun i hi => ?_, by simp -implicitDefEqProofs only [f0, wset, tailW, tailEnd, isLenV, isOneV, vop, vbin, vbinI, vun, ↓reduceIte, Nat.reduceEqDiff, Nat.reduceAdd, vcells, vcut, cutSK, cutVK, cutNK, fillV, spl, Nat.reduceLeDiff, V.isNil, bne_self_eq_false], by simp -implicitDefEqProofs only [f4, wset, tailW, tailEnd, isLenV, isOneV, vop, vbin, vbinI, vun, ↓reduceIte, Nat.reduceEqDiff, Nat.reduceAdd, vcells, vcut, cutSK, cutVK, cutNK, fillV, spl, Nat.reduceLeDiff, V.isNil, bne_self_eq_false], by simp -implicitDefEqProofs only [f24, wset, tailW, tailEnd, isLenV, isOneV, vop, vbin, vbinI, vun, ↓reduceIte, Nat.reduceEqDiff, Nat.reduceAdd, vcells, vcut, cutSK, cutVK, cutNK, fillV, spl, Nat.reduceLeDiff, V.isNil, bne_self_eq_false], by simp -implicitDefEqProofs only [f25', wset, tailW, tailEnd, isLenV, isOneV, vop, vbin, vbinI, vun, ↓reduceIte, Nat.reduceEqDiff, Nat.reduceAdd, vcells, vcut, cutSK, cutVK, cutNK, fillV, spl, Nat.reduceLeDiff, V.isNil, bne_self_eq_false]; rfl, by rw [List.append_assoc, List.append_assoc]⟩
      by_cases e : i = 3
      · subst e; exact fun hh => hb (hh.symm)
      · exact hno i (by omega)
  · have f25' : fr 25 = .int .i64 4 := f25
    have n1 : decide ((4 : Int) < 5) = true := rfl
    have n2 : Int.toNat 4 * 2 = 8 := rfl
    have n3 : Int.toNat 0 = 0 := rfl
    have n4 : Int.toNat 1 = 1 := rfl
    simp -implicitDefEqProofs only [f0, f4, f24, f25', n1, n2, n3, n4, app_get _ _ hxl, app_set _ _ _ hxl, Nat.zero_mul, Nat.one_mul, wset, tailW, tailEnd, isLenV, isOneV, vop, vbin, vbinI, vun, ↓reduceIte, Nat.reduceEqDiff, Nat.reduceAdd, vcells, vcut, cutSK, cutVK, cutNK, fillV, spl, Nat.reduceLeDiff, V.isNil, bne_self_eq_false]
    refine ⟨by omega, by omega, ?_⟩
    refine chooseK_split (fun g => ?_) (fun g => ?_) <;> simp -implicitDefEqProofs only [g, f0, f4, f24, f25', n1, n2, n3, n4, app_get _ _ hxl, app_set _ _ _ hxl, Nat.zero_mul, Nat.one_mul, wset, tailW, tailEnd, isLenV, isOneV, vop, vbin, vbinI, vun, ↓reduceIte, Nat.reduceEqDiff, Nat.reduceAdd, vcells, vcut, cutSK, cutVK, cutNK, fillV, spl, Nat.reduceLeDiff, V.isNil, bne_self_eq_false]
    · have hb : bN s 1 = 116 := by simp at g; omega
      rw [show letV (bN s 1) = some 9 from by rw [hb]; rfl] at h
      rw [List.append_assoc, List.append_assoc]
      exact ⟨by omega, exitNew hw (by rfl) (by rfl) h⟩
    · have hb : bN s 1 ≠ 116 := by simp at g; omega
      refine ⟨5 - 5, by omega, 5, xs ++ [_], ys ++ [_], by omega, rfl, fun i hi => ?_, by simp -implicitDefEqProofs only [f0, wset, tailW, tailEnd, isLenV, isOneV, vop, vbin, vbinI, vun, ↓reduceIte, Nat.reduceEqDiff, Nat.reduceAdd, vcells, vcut, cutSK, cutVK, cutNK, fillV, spl, Nat.reduceLeDiff, V.isNil, bne_self_eq_false], by simp -implicitDefEqProofs only [f4, wset, tailW, tailEnd, isLenV, isOneV, vop, vbin, vbinI, vun, ↓reduceIte, Nat.reduceEqDiff, Nat.reduceAdd, vcells, vcut, cutSK, cutVK, cutNK, fillV, spl, Nat.reduceLeDiff, V.isNil, bne_self_eq_false], by simp -implicitDefEqProofs only [f24, wset, tailW, tailEnd, isLenV, isOneV, vop, vbin, vbinI, vun, ↓reduceIte, Nat.reduceEqDiff, Nat.reduceAdd, vcells, vcut, cutSK, cutVK, cutNK, fillV, spl, Nat.reduceLeDiff, V.isNil, bne_self_eq_false], by simp -implicitDefEqProofs only [f25', wset, tailW, tailEnd, isLenV, isOneV, vop, vbin, vbinI, vun, ↓reduceIte, Nat.reduceEqDiff, Nat.reduceAdd, vcells, vcut, cutSK, cutVK, cutNK, fillV, spl, Nat.reduceLeDiff, V.isNil, bne_self_eq_false]; rfl, by rw [List.append_assoc, List.append_assoc]⟩
      by_cases e : i = 4
      · subst e; exact fun hh => hb (hh.symm)
      · exact hno i (by omega)
  · have f25' : fr 25 = .int .i64 5 := f25
    have n1 : decide ((5 : Int) < 5) = false := rfl
    have hlv : letV (bN s 1) = none := by
      have a0 := hno 0 (by omega)
      have a1 := hno 1 (by omega)
      have a2 := hno 2 (by omega)
      have a3 := hno 3 (by omega)
      have a4 := hno 4 (by omega)
      simp only [lettersN, Nat.mul_zero, Nat.reduceMul, List.getD_cons_zero, List.getD_cons_succ, ne_eq] at a0 a1 a2 a3 a4
      simp only [letV]
      split
      · omega
      split
      · omega
      split
      · omega
      split
      · omega
      split
      · omega
      rfl
    rw [hlv] at h
    simp -implicitDefEqProofs only [f0, f4, f24, f25', n1, wset, tailW, tailEnd, isLenV, isOneV, vop, vbin, vbinI, vun, ↓reduceIte, Nat.reduceEqDiff, Nat.reduceAdd, vcells, vcut, cutSK, cutVK, cutNK, fillV, spl, Nat.reduceLeDiff, V.isNil, bne_self_eq_false]
    refine unit_C ?_
    cases hu : unitS s with
    | none =>
      rw [hu] at h
      simp -implicitDefEqProofs only [wset, tailW, tailEnd, isLenV, isOneV, vop, vbin, vbinI, vun, ↓reduceIte, Nat.reduceEqDiff, Nat.reduceAdd, vcells, vcut, cutSK, cutVK, cutNK, fillV, spl, Nat.reduceLeDiff, V.isNil, bne_self_eq_false]
      exact exitNew hw (by rfl) (by rfl) h
    | some r =>
      have hr := unitS_lt hu
      have h6 := unitS_len hu
      rw [hu] at h
      have hcase : r < 55296 ∨ (55296 ≤ r ∧ r < 56320) ∨ (56320 ≤ r ∧ r ≤ 57343) ∨ 57343 < r := by omega
      rcases hcase with hc | hc | hc | hc
      · skip
        have e1 : decide ((r : Int) ≥ 56320) = false := decide_eq_false (by omega)
        have e2 : decide ((r : Int) ≤ 57343) = true := decide_eq_true (by omega)
        have e3 : decide ((r : Int) < 55296) = true := decide_eq_true (by omega)
        have e4 : decide ((r : Int) > 57343) = false := decide_eq_false (by omega)
        simp -implicitDefEqProofs only [e1, e2, e3, e4, f0, wset, tailW, tailEnd, isLenV, isOneV, vop, vbin, vbinI, vun, ↓reduceIte, Nat.reduceEqDiff, Nat.reduceAdd, vcells, vcut, cutSK, cutVK, cutNK, fillV, spl, Nat.reduceLeDiff, V.isNil, bne_self_eq_false]
        refine exitNew hw (by rfl) (by rfl) ?_
        simpa [if_neg (show ¬ (56320 ≤ r ∧ r ≤ 57343) by omega), if_pos (show r < 55296 ∨ 57343 < r by omega)] using h
      · skip
        have e1 : decide ((r : Int) ≥ 56320) = false := decide_eq_false (by omega)
        have e2 : decide ((r : Int) ≤ 57343) = true := decide_eq_true (by omega)
        have e3 : decide ((r : Int) < 55296) = false := decide_eq_false (by omega)
        have e4 : decide ((r : Int) > 57343) = false := decide_eq_false (by omega)
        simp -implicitDefEqProofs only [e1, e2, e3, e4, f0, wset, tailW, tailEnd, isLenV, isOneV, vop, vbin, vbinI, vun, ↓reduceIte, Nat.reduceEqDiff, Nat.reduceAdd, vcells, vcut, cutSK, cutVK, cutNK, fillV, spl, Nat.reduceLeDiff, V.isNil, bne_self_eq_false]
        refine ⟨by omega, ?_⟩
        rw [cut_drop, show Int.toNat 6 = 6 from rfl]
        refine unit_C ?_
        simp only [if_neg (show ¬ (56320 ≤ r ∧ r ≤ 57343) by omega), if_neg (show ¬ (r < 55296 ∨ 57343 < r) by omega)] at h
        cases hv : unitS (s.drop 6) with
        | none =>
          rw [hv] at h
          simp -implicitDefEqProofs only [wset, tailW, tailEnd, isLenV, isOneV, vop, vbin, vbinI, vun, ↓reduceIte, Nat.reduceEqDiff, Nat.reduceAdd, vcells, vcut, cutSK, cutVK, cutNK, fillV, spl, Nat.reduceLeDiff, V.isNil, bne_self_eq_false]
          exact exitNew hw (by rfl) (by rfl) h
        | some l =>
          have hl' := unitS_lt hv
          rw [hv] at h
          simp -implicitDefEqProofs only [wset, tailW, tailEnd, isLenV, isOneV, vop, vbin, vbinI, vun, ↓reduceIte, Nat.reduceEqDiff, Nat.reduceAdd, vcells, vcut, cutSK, cutVK, cutNK, fillV, spl, Nat.reduceLeDiff, V.isNil, bne_self_eq_false]
          refine chooseK_split (fun g1 => ?_) (fun g1 => ?_) <;> simp -implicitDefEqProofs only [g1, wset, tailW, tailEnd, isLenV, isOneV, vop, vbin, vbinI, vun, ↓reduceIte, Nat.reduceEqDiff, Nat.reduceAdd, vcells, vcut, cutSK, cutVK, cutNK, fillV, spl, Nat.reduceLeDiff, V.isNil, bne_self_eq_false]
          · refine exitNew hw (by rfl) (by rfl) ?_
            simp only [if_pos (show l < 56320 ∨ 57343 < l from .inl (by simp at g1; omega))] at h
            exact h
          refine chooseK_split (fun g2 => ?_) (fun g2 => ?_) <;> simp -implicitDefEqProofs only [g2, wset, tailW, tailEnd, isLenV, isOneV, vop, vbin, vbinI, vun, ↓reduceIte, Nat.reduceEqDiff, Nat.reduceAdd, vcells, vcut, cutSK, cutVK, cutNK, fillV, spl, Nat.reduceLeDiff, V.isNil, bne_self_eq_false]
          · refine exitNew hw (by rfl) (by rfl) ?_
            simp only [if_pos (show l < 56320 ∨ 57343 < l from .inr (by simp at g2; omega))] at h
            exact h
          have g1' : 56320 ≤ l := by simp at g1; omega
          have g2' : l ≤ 57343 := by simp at g2; omega
          refine ⟨by omega, exitNew hw (by rfl) (by rfl) ?_⟩
          simp only [if_neg (show ¬ (l < 56320 ∨ 57343 < l) by omega)] at h
          have hk : (2 : Int) ^ min (Int.toNat 10) (IntKind.bits .i32) = 1024 := rfl
          rw [hk, wrap32z (n := (r : Int) - 55296) (by omega), wrap32z (n := ((r : Int) - 55296) * 1024) (by omega), wrap32z (n := (l : Int) - 56320) (by omega), wrap32z (n := ((r : Int) - 55296) * 1024 + ((l : Int) - 56320)) (by omega), wrap32z (by omega)]
          have hz : ((r : Int) - 55296) * 1024 + ((l : Int) - 56320) + 65536 = (((r - 55296) * 1024 + (l - 56320) + 65536 : Nat) : Int) := by omega
          rw [hz]
          exact h
      · skip
        have e1 : decide ((r : Int) ≥ 56320) = true := decide_eq_true (by omega)
        have e2 : decide ((r : Int) ≤ 57343) = true := decide_eq_true (by omega)
        have e3 : decide ((r : Int) < 55296) = false := decide_eq_false (by omega)
        have e4 : decide ((r : Int) > 57343) = false := decide_eq_false (by omega)
        simp -implicitDefEqProofs only [e1, e2, e3, e4, f0, wset, tailW, tailEnd, isLenV, isOneV, vop, vbin, vbinI, vun, ↓reduceIte, Nat.reduceEqDiff, Nat.reduceAdd, vcells, vcut, cutSK, cutVK, cutNK, fillV, spl, Nat.reduceLeDiff, V.isNil, bne_self_eq_false]
        refine exitNew hw (by rfl) (by rfl) ?_
        simpa [if_pos hc] using h
      · skip
        have e1 : decide ((r : Int) ≥ 56320) = true := decide_eq_true (by omega)
        have e2 : decide ((r : Int) ≤ 57343) = false := decide_eq_false (by omega)
        have e3 : decide ((r : Int) < 55296) = false := decide_eq_false (by omega)
        have e4 : decide ((r : Int) > 57343) = true := decide_eq_true (by omega)
        simp -implicitDefEqProofs only [e1, e2, e3, e4, f0, wset, tailW, tailEnd, isLenV, isOneV, vop, vbin, vbinI, vun, ↓reduceIte, Nat.reduceEqDiff, Nat.reduceAdd, vcells, vcut, cutSK, cutVK, cutNK, fillV, spl, Nat.reduceLeDiff, V.isNil, bne_self_eq_false]
        refine exitNew hw (by rfl) (by rfl) ?_
        simpa [if_neg (show ¬ (56320 ≤ r ∧ r ≤ 57343) by omega), if_pos (show r < 55296 ∨ 57343 < r by omega)] using h
end Go.Proofs.YtgdcdkgmeomhpaaGreatDoor

namespace Go.Proofs.YtgdcdkgmeomhpaaGreatDoor
open Go Go.Vs
set_option maxRecDepth 20000
attribute [local irreducible] chooseK

theorem all_lt {n : Nat} {p : Nat → Bool} (h : (List.range n).all p = true) {x : Nat} (hx : x < n) : p x = true := List.all_eq_true.1 h x (List.mem_range.2 hx)

theorem wrapu8 (n : Nat) : IntKind.wrap .u8 (n : Int) = ((n % 256 : Nat) : Int) := by
  simp only [IntKind.wrap, IntKind.bits, IntKind.signed, Bool.false_and]
  simp
theorem wrapu32 {n : Nat} (h : n < 4294967296) : IntKind.wrap .u32 (n : Int) = (n : Int) := by
  simp only [IntKind.wrap, IntKind.bits, IntKind.signed, Bool.false_and]
  simp; omega
/-- The low six bits. -/
theorem low6 (n : Nat) : ibits .and .u8 (IntKind.wrap .u8 (n : Int)) 63 = ((n % 64 : Nat) : Int) := by
  rw [wrapu8]
  have h := of_decide_eq_true (all_lt (n := 256) (p := fun x => decide (ibits .and .u8 (x : Int) 63 = ((x % 64 : Nat) : Int))) (by kernel_rfl) (x := n % 256) (by omega))
  rw [h]
  congr 1
  omega
theorem or128 {n : Nat} (h : n < 64) : ibits .or .u8 128 (n : Int) = ((128 + n : Nat) : Int) :=
  of_decide_eq_true (all_lt (n := 64) (p := fun x => decide (ibits .or .u8 128 (x : Int) = ((128 + x : Nat) : Int))) (by kernel_rfl) h)
theorem or192 {n : Nat} (h : n < 32) : ibits .or .u8 192 (IntKind.wrap .u8 (n : Int)) = ((192 + n : Nat) : Int) :=
  of_decide_eq_true (all_lt (n := 32) (p := fun x => decide (ibits .or .u8 192 (IntKind.wrap .u8 (x : Int)) = ((192 + x : Nat) : Int))) (by kernel_rfl) h)
theorem or224 {n : Nat} (h : n < 16) : ibits .or .u8 224 (IntKind.wrap .u8 (n : Int)) = ((224 + n : Nat) : Int) :=
  of_decide_eq_true (all_lt (n := 16) (p := fun x => decide (ibits .or .u8 224 (IntKind.wrap .u8 (x : Int)) = ((224 + x : Nat) : Int))) (by kernel_rfl) h)
theorem or240 {n : Nat} (h : n < 8) : ibits .or .u8 240 (IntKind.wrap .u8 (n : Int)) = ((240 + n : Nat) : Int) :=
  of_decide_eq_true (all_lt (n := 8) (p := fun x => decide (ibits .or .u8 240 (IntKind.wrap .u8 (x : Int)) = ((240 + x : Nat) : Int))) (by kernel_rfl) h)
theorem shr6 (n : Nat) : (n : Int).fdiv (2 ^ min (Int.toNat 6) (IntKind.bits .i32)) = ((n / 64 : Nat) : Int) := by
  rw [show (2 : Int) ^ min (Int.toNat 6) (IntKind.bits .i32) = 64 from rfl, Int.fdiv_eq_ediv_of_nonneg _ (by omega)]; omega
theorem shr12 (n : Nat) : (n : Int).fdiv (2 ^ min (Int.toNat 12) (IntKind.bits .i32)) = ((n / 4096 : Nat) : Int) := by
  rw [show (2 : Int) ^ min (Int.toNat 12) (IntKind.bits .i32) = 4096 from rfl, Int.fdiv_eq_ediv_of_nonneg _ (by omega)]; omega
theorem shr18 (n : Nat) : (n : Int).fdiv (2 ^ min (Int.toNat 18) (IntKind.bits .i32)) = ((n / 262144 : Nat) : Int) := by
  rw [show (2 : Int) ^ min (Int.toNat 18) (IntKind.bits .i32) = 262144 from rfl, Int.fdiv_eq_ediv_of_nonneg _ (by omega)]; omega

/-- A rune's bytes, as numbers. -/
def encN (r : Nat) : List Nat :=
  if r ≤ 127 then [r]
  else if r ≤ 2047 then [192 + r / 64, 128 + r % 64]
  else if r < 55296 ∨ (57343 < r ∧ r ≤ 65535) then [224 + r / 4096, 128 + r / 64 % 64, 128 + r % 64]
  else if 65535 < r ∧ r ≤ 1114111 then [240 + r / 262144, 128 + r / 4096 % 64, 128 + r / 64 % 64, 128 + r % 64]
  else [239, 191, 189]
/-- A rune's bytes. -/
def encR (r : Nat) : List UInt8 := (encN r).map UInt8.ofNat
theorem encN_lt (r : Nat) : ∀ x ∈ encN r, x < 256 := by
  unfold encN
  intro x hx
  repeat' split at hx
  all_goals simp at hx; omega
theorem encR_ne (r : Nat) : encR r ≠ [] := by
  unfold encR encN
  repeat' split
  all_goals simp
theorem encR_len (r : Nat) : (encR r).length ≤ 4 := by
  unfold encR encN
  repeat' split
  all_goals simp
theorem bytesV_ofNat {l : List Nat} (h : ∀ x ∈ l, x < 256) : bytesV (l.map UInt8.ofNat) = l.map fun (n : Nat) => V.int .u8 (n : Int) := by
  simp only [bytesV, List.map_map]
  apply List.map_congr_left
  intro x hx
  have := h x hx
  simp [Function.comp]
  omega

theorem vapp_mono {e : TypeId} {sz : Nat} {σ : St} {x : V} {ys : List V} {K K' : V → St → Prop} (h : vapp e sz σ x ys K) (hk : ∀ v σ', K v σ' → K' v σ') : vapp e sz σ x ys K' := by
  refine ⟨h.1, ?_⟩
  have h2 := h.2
  split at h2
  · refine ⟨h2.1, ?_⟩
    have h3 := h2.2
    split at h3
    · rename_i hy; simp only [if_pos hy]; exact hk _ _ h3
    · rename_i hy; simp only [if_neg hy]; exact hk _ _ h3
  · refine ⟨h2.1, h2.2.1, ?_⟩
    have h3 := h2.2.2
    split at h3
    · rename_i hy; simp only [if_pos hy]; exact hk _ _ h3
    · rename_i hy; simp only [if_neg hy]; exact hk _ _ h3
  · exact ⟨h2.1, h2.2.1, h2.2.2.1, h2.2.2.2.1, h2.2.2.2.2.1, hk _ _ h2.2.2.2.2.2⟩
  · exact h2

theorem appRuneNA_C {x : V} {r : Nat} {σ : St} {Q : Out → St → Prop} (hr : r < 2147483648) (h7 : 127 < r) (h : vapp 5 1 σ x (bytesV (encR r)) (fun v σ' => Q (.ret v) σ')) : C Xc 85 [x, .int .i32 (r : Int)] σ Q := by
  refine body cf_appendRuneNA (Eq.refl true) ?_
  rw [encR, bytesV_ofNat (encN_lt r), encN, if_neg (by omega)] at h
  simp -implicitDefEqProofs only [vf_appendRuneNA, wrapu32 (show r < 4294967296 by omega), wset, tailW, tailEnd, isLenV, isOneV, vop, vbin, vbinI, vun, ↓reduceIte, Nat.reduceEqDiff, Nat.reduceAdd, vcells, vcut, cutSK, cutVK, cutNK, fillV, spl, Nat.reduceLeDiff, V.isNil, bne_self_eq_false]
  have hu := wrapu32 (show r < 4294967296 by omega)
  refine chooseK_split (fun g1 => ?_) (fun g1 => ?_) <;> simp -implicitDefEqProofs only [g1, hu, wset, tailW, tailEnd, isLenV, isOneV, vop, vbin, vbinI, vun, ↓reduceIte, Nat.reduceEqDiff, Nat.reduceAdd, vcells, vcut, cutSK, cutVK, cutNK, fillV, spl, Nat.reduceLeDiff, V.isNil, bne_self_eq_false]
  · have g : r ≤ 2047 := by simp at g1; omega
    rw [if_pos g] at h
    refine ⟨by omega, by simp [V.cells, V.notTup], ?_⟩
    rw [shr6, or192 (by omega), low6, or128 (by omega)]
    refine vapp_mono h fun v σ' hv => ?_
    simp -implicitDefEqProofs only [wset, tailW, tailEnd, isLenV, isOneV, vop, vbin, vbinI, vun, ↓reduceIte, Nat.reduceEqDiff, Nat.reduceAdd, vcells, vcut, cutSK, cutVK, cutNK, fillV, spl, Nat.reduceLeDiff, V.isNil, bne_self_eq_false]
    exact .inl hv
  have g : ¬ r ≤ 2047 := by simp at g1; omega
  rw [if_neg g] at h
  have three : (r < 55296 ∨ (57343 < r ∧ r ≤ 65535)) → vapp 5 1 σ x [.int .u8 (ibits .or .u8 224 (IntKind.wrap .u8 ((r : Int).fdiv (2 ^ min (Int.toNat 12) (IntKind.bits .i32))))), .int .u8 (ibits .or .u8 128 (ibits .and .u8 (IntKind.wrap .u8 ((r : Int).fdiv (2 ^ min (Int.toNat 6) (IntKind.bits .i32)))) 63)), .int .u8 (ibits .or .u8 128 (ibits .and .u8 (IntKind.wrap .u8 (r : Int)) 63))] (fun v σ' => Q (.ret v) σ') := fun hg => by
    rw [if_pos hg] at h
    rw [shr12, shr6, or224 (by omega), low6, low6, or128 (by omega), or128 (by omega)]
    exact h
  refine chooseK_split (fun g2 => ?_) (fun g2 => ?_) <;> simp -implicitDefEqProofs only [g2, hu, wset, tailW, tailEnd, isLenV, isOneV, vop, vbin, vbinI, vun, ↓reduceIte, Nat.reduceEqDiff, Nat.reduceAdd, vcells, vcut, cutSK, cutVK, cutNK, fillV, spl, Nat.reduceLeDiff, V.isNil, bne_self_eq_false]
  · refine ⟨by omega, by omega, by simp [V.cells, V.notTup], ?_⟩
    have h := three (.inl (by simp at g2; omega))
    refine vapp_mono h fun v σ' hv => ?_
    simp -implicitDefEqProofs only [wset, tailW, tailEnd, isLenV, isOneV, vop, vbin, vbinI, vun, ↓reduceIte, Nat.reduceEqDiff, Nat.reduceAdd, vcells, vcut, cutSK, cutVK, cutNK, fillV, spl, Nat.reduceLeDiff, V.isNil, bne_self_eq_false]
    exact .inl hv
  have g2' : ¬ r < 55296 := by simp at g2; omega
  have hcase : r ≤ 57343 ∨ (57343 < r ∧ r ≤ 65535) ∨ (65535 < r ∧ r ≤ 1114111) ∨ 1114111 < r := by omega
  rcases hcase with hc | hc | hc | hc
  · skip
    have d1 : decide (57343 < (r : Int)) = false := decide_eq_false (by omega)
    have d2 : decide ((r : Int) ≤ 65535) = true := decide_eq_true (by omega)
    have d3 : decide ((r : Int) > 65535) = false := decide_eq_false (by omega)
    have d4 : decide ((r : Int) ≤ 1114111) = true := decide_eq_true (by omega)
    simp -implicitDefEqProofs only [d1, d2, d3, d4, hu, wset, tailW, tailEnd, isLenV, isOneV, vop, vbin, vbinI, vun, ↓reduceIte, Nat.reduceEqDiff, Nat.reduceAdd, vcells, vcut, cutSK, cutVK, cutNK, fillV, spl, Nat.reduceLeDiff, V.isNil, bne_self_eq_false]
    refine ⟨by simp [V.cells, V.notTup], ?_⟩
    rw [if_neg (by omega), if_neg (by omega)] at h
    refine vapp_mono h fun v σ' hv => ?_
    simp -implicitDefEqProofs only [wset, tailW, tailEnd, isLenV, isOneV, vop, vbin, vbinI, vun, ↓reduceIte, Nat.reduceEqDiff, Nat.reduceAdd, vcells, vcut, cutSK, cutVK, cutNK, fillV, spl, Nat.reduceLeDiff, V.isNil, bne_self_eq_false]
    exact .inl hv
  · skip
    have d1 : decide (57343 < (r : Int)) = true := decide_eq_true (by omega)
    have d2 : decide ((r : Int) ≤ 65535) = true := decide_eq_true (by omega)
    have d3 : decide ((r : Int) > 65535) = false := decide_eq_false (by omega)
    have d4 : decide ((r : Int) ≤ 1114111) = true := decide_eq_true (by omega)
    simp -implicitDefEqProofs only [d1, d2, d3, d4, hu, wset, tailW, tailEnd, isLenV, isOneV, vop, vbin, vbinI, vun, ↓reduceIte, Nat.reduceEqDiff, Nat.reduceAdd, vcells, vcut, cutSK, cutVK, cutNK, fillV, spl, Nat.reduceLeDiff, V.isNil, bne_self_eq_false]
    refine ⟨by omega, by omega, by simp [V.cells, V.notTup], ?_⟩
    have h := three (.inr (by omega))
    refine vapp_mono h fun v σ' hv => ?_
    simp -implicitDefEqProofs only [wset, tailW, tailEnd, isLenV, isOneV, vop, vbin, vbinI, vun, ↓reduceIte, Nat.reduceEqDiff, Nat.reduceAdd, vcells, vcut, cutSK, cutVK, cutNK, fillV, spl, Nat.reduceLeDiff, V.isNil, bne_self_eq_false]
    exact .inl hv
  · skip
    have d1 : decide (57343 < (r : Int)) = true := decide_eq_true (by omega)
    have d2 : decide ((r : Int) ≤ 65535) = false := decide_eq_false (by omega)
    have d3 : decide ((r : Int) > 65535) = true := decide_eq_true (by omega)
    have d4 : decide ((r : Int) ≤ 1114111) = true := decide_eq_true (by omega)
    simp -implicitDefEqProofs only [d1, d2, d3, d4, hu, wset, tailW, tailEnd, isLenV, isOneV, vop, vbin, vbinI, vun, ↓reduceIte, Nat.reduceEqDiff, Nat.reduceAdd, vcells, vcut, cutSK, cutVK, cutNK, fillV, spl, Nat.reduceLeDiff, V.isNil, bne_self_eq_false]
    rw [if_neg (by omega), if_pos (by omega)] at h
    refine ⟨by omega, by omega, by omega, by simp [V.cells, V.notTup], ?_⟩
    rw [shr18, shr12, shr6, or240 (by omega), low6, low6, low6, or128 (by omega), or128 (by omega), or128 (by omega)]
    refine vapp_mono h fun v σ' hv => ?_
    simp -implicitDefEqProofs only [wset, tailW, tailEnd, isLenV, isOneV, vop, vbin, vbinI, vun, ↓reduceIte, Nat.reduceEqDiff, Nat.reduceAdd, vcells, vcut, cutSK, cutVK, cutNK, fillV, spl, Nat.reduceLeDiff, V.isNil, bne_self_eq_false]
    exact .inl hv
  · skip
    have d1 : decide (57343 < (r : Int)) = true := decide_eq_true (by omega)
    have d2 : decide ((r : Int) ≤ 65535) = false := decide_eq_false (by omega)
    have d3 : decide ((r : Int) > 65535) = true := decide_eq_true (by omega)
    have d4 : decide ((r : Int) ≤ 1114111) = false := decide_eq_false (by omega)
    simp -implicitDefEqProofs only [d1, d2, d3, d4, hu, wset, tailW, tailEnd, isLenV, isOneV, vop, vbin, vbinI, vun, ↓reduceIte, Nat.reduceEqDiff, Nat.reduceAdd, vcells, vcut, cutSK, cutVK, cutNK, fillV, spl, Nat.reduceLeDiff, V.isNil, bne_self_eq_false]
    refine ⟨by simp [V.cells, V.notTup], ?_⟩
    rw [if_neg (by omega), if_neg (by omega)] at h
    refine vapp_mono h fun v σ' hv => ?_
    simp -implicitDefEqProofs only [wset, tailW, tailEnd, isLenV, isOneV, vop, vbin, vbinI, vun, ↓reduceIte, Nat.reduceEqDiff, Nat.reduceAdd, vcells, vcut, cutSK, cutVK, cutNK, fillV, spl, Nat.reduceLeDiff, V.isNil, bne_self_eq_false]
    exact .inl hv

/-- A rune is appended. -/
theorem appRune_C {x : V} {r : Nat} {σ : St} {Q : Out → St → Prop} (hr : r < 2147483648) (h : vapp 5 1 σ x (bytesV (encR r)) (fun v σ' => Q (.ret v) σ')) : C Xc 74 [x, .int .i32 (r : Int)] σ Q := by
  refine body cf_appendRune (Eq.refl true) ?_
  have hu := wrapu32 (show r < 4294967296 by omega)
  simp -implicitDefEqProofs only [vf_appendRune, hu, wset, tailW, tailEnd, isLenV, isOneV, vop, vbin, vbinI, vun, ↓reduceIte, Nat.reduceEqDiff, Nat.reduceAdd, vcells, vcut, cutSK, cutVK, cutNK, fillV, spl, Nat.reduceLeDiff, V.isNil, bne_self_eq_false]
  refine chooseK_split (fun g1 => ?_) (fun g1 => ?_) <;> simp -implicitDefEqProofs only [g1, hu, wset, tailW, tailEnd, isLenV, isOneV, vop, vbin, vbinI, vun, ↓reduceIte, Nat.reduceEqDiff, Nat.reduceAdd, vcells, vcut, cutSK, cutVK, cutNK, fillV, spl, Nat.reduceLeDiff, V.isNil, bne_self_eq_false]
  · have g : r ≤ 127 := by simp at g1; omega
    rw [encR, bytesV_ofNat (encN_lt r), encN, if_pos g] at h
    refine ⟨by simp [V.cells, V.notTup], ?_⟩
    rw [wrapu8, Nat.mod_eq_of_lt (by omega)]
    refine vapp_mono h fun v σ' hv => ?_
    simp -implicitDefEqProofs only [wset, tailW, tailEnd, isLenV, isOneV, vop, vbin, vbinI, vun, ↓reduceIte, Nat.reduceEqDiff, Nat.reduceAdd, vcells, vcut, cutSK, cutVK, cutNK, fillV, spl, Nat.reduceLeDiff, V.isNil, bne_self_eq_false]
    exact .inl hv
  · have g : ¬ r ≤ 127 := by simp at g1; omega
    refine appRuneNA_C hr (by omega) (vapp_mono h fun v σ' hv => ?_)
    simp -implicitDefEqProofs only [wset, tailW, tailEnd, isLenV, isOneV, vop, vbin, vbinI, vun, ↓reduceIte, Nat.reduceEqDiff, Nat.reduceAdd, vcells, vcut, cutSK, cutVK, cutNK, fillV, spl, Nat.reduceLeDiff, V.isNil, bne_self_eq_false]
    exact .inl hv

theorem bytesV_cells (b : List UInt8) : ∀ y ∈ bytesV b, y.cells.length = 1 ∧ y.notTup = true := by
  intro y hy
  obtain ⟨c, _, rfl⟩ := List.mem_map.1 hy
  exact ⟨rfl, rfl⟩
theorem bytesV_len (b : List UInt8) : (bytesV b).length = b.length := by simp [bytesV]
theorem bytesV_nil {b : List UInt8} : bytesV b = [] ↔ b = [] := by simp [bytesV]
theorem bytesV_app (a b : List UInt8) : bytesV (a ++ b) = bytesV a ++ bytesV b := by simp [bytesV]
theorem vappB_nil {e : TypeId} {σ : St} {bs : List UInt8} {K : V → St → Prop} (hb : bs ≠ []) (hl : bs.length ≤ big) (h : K (.slc true (bytesV bs) (.own σ.toks.length)) { σ with toks := σ.toks ++ [bs.length], tts := σ.tts ++ [e] }) : vapp e 1 σ (.slc false [] .no) (bytesV bs) K := by
  refine ⟨bytesV_cells bs, by rw [bytesV_len]; exact hl, ?_⟩
  rw [if_neg (fun e => hb (bytesV_nil.1 e)), bytesV_len]
  exact h
theorem vappB_own {e : TypeId} {σ : St} {b bs : List UInt8} {i : Nat} {K : V → St → Prop} (hb : b ≠ []) (hl : (b ++ bs).length ≤ big) (h1 : σ.toks[i]? = some b.length) (h2 : σ.tts[i]? = some e) (h : K (.slc true (bytesV (b ++ bs)) (.own i)) { σ with toks := σ.toks.set i (b ++ bs).length }) : vapp e 1 σ (.slc true (bytesV b) (.own i)) (bytesV bs) K := by
  refine ⟨bytesV_cells bs, fun y hy => (bytesV_cells b y hy).1, fun e => hb (bytesV_nil.1 e), by rw [bytesV_len, bytesV_len, ← List.length_append]; exact hl, by rw [bytesV_len]; exact h1, h2, ?_⟩
  rw [bytesV_len, bytesV_len, ← List.length_append, ← bytesV_app]
  exact h

/-- A builder's cells: used, its row, its bytes. -/
def bldV (u : Bool) (o i : Nat) (b : List UInt8) : List V := [if u then .ref (some (o, 0)) else .ref none, if b = [] then .slc false [] .no else .slc true (bytesV b) (.own i)]

theorem copyCheck_C {o i : Nat} {u : Bool} {b : List UInt8} {σ : St} {Q : Out → St → Prop} (ho : σ.objs[o]? = some (bldV u o i b)) (ht : σ.tys[o]? = some 91) (h : Q (.ret .und) { σ with objs := σ.objs.set o (bldV true o i b) }) : C Xc 73 [.ref (some (o, 0))] σ Q := by
  refine body cf_bCopyCheck (Eq.refl true) ?_
  cases u
  · have e : bldV false o i b = [.ref none, if b = [] then .slc false [] .no else .slc true (bytesV b) (.own i)] := rfl
    have e' : bldV true o i b = [.ref (some (o, 0)), if b = [] then .slc false [] .no else .slc true (bytesV b) (.own i)] := rfl
    rw [e'] at h
    rw [e] at ho
    simp -implicitDefEqProofs only [vf_bCopyCheck, ho, ht, wset, tailW, tailEnd, isLenV, isOneV, vop, vbin, vbinI, vun, ↓reduceIte, Nat.reduceEqDiff, Nat.reduceAdd, vcells, vcut, cutSK, cutVK, cutNK, fillV, spl, Nat.reduceLeDiff, V.isNil, bne_self_eq_false]
    exact ⟨by omega, .inl h⟩
  · have e : bldV true o i b = [.ref (some (o, 0)), if b = [] then .slc false [] .no else .slc true (bytesV b) (.own i)] := rfl
    rw [set_same ho] at h
    rw [e] at ho
    simp -implicitDefEqProofs only [vf_bCopyCheck, ho, ht, wset, tailW, tailEnd, isLenV, isOneV, vop, vbin, vbinI, vun, ↓reduceIte, Nat.reduceEqDiff, Nat.reduceAdd, vcells, vcut, cutSK, cutVK, cutNK, fillV, spl, Nat.reduceLeDiff, V.isNil, bne_self_eq_false]
    exact .inl h

theorem writeRune0_C {o i r : Nat} {u : Bool} {σ : St} {Q : Out → St → Prop} (ho : σ.objs[o]? = some (bldV u o i [])) (ht : σ.tys[o]? = some 91) (hr : r < 2147483648)
    (h : Q (.ret (.tup [.int .i64 ((encR r).length : Int), .nilI])) ⟨σ.objs.set o (bldV true o σ.toks.length (encR r)), σ.maps, σ.toks ++ [(encR r).length], σ.tys, σ.tts ++ [5]⟩) : C Xc 60 [.ref (some (o, 0)), .int .i32 (r : Int)] σ Q := by
  have hlen := encR_len r
  refine body cf_bWriteRune (Eq.refl true) ?_
  simp -implicitDefEqProofs only [vf_bWriteRune, wset, tailW, tailEnd, isLenV, isOneV, vop, vbin, vbinI, vun, ↓reduceIte, Nat.reduceEqDiff, Nat.reduceAdd, vcells, vcut, cutSK, cutVK, cutNK, fillV, spl, Nat.reduceLeDiff, V.isNil, bne_self_eq_false]
  refine copyCheck_C ho ht ?_
  have ho' := set_get (y := bldV true o i []) ho
  have ho2 := set_get (y := bldV true o σ.toks.length (encR r)) ho
  have e : bldV true o i [] = [.ref (some (o, 0)), .slc false [] .no] := rfl
  have e2 : bldV true o σ.toks.length (encR r) = [.ref (some (o, 0)), .slc true (bytesV (encR r)) (.own σ.toks.length)] := by rw [bldV, if_neg (encR_ne r)]; rfl
  rw [e2] at h ho2
  rw [e] at ho' ⊢
  simp -implicitDefEqProofs only [ho', wset, tailW, tailEnd, isLenV, isOneV, vop, vbin, vbinI, vun, ↓reduceIte, Nat.reduceEqDiff, Nat.reduceAdd, vcells, vcut, cutSK, cutVK, cutNK, fillV, spl, Nat.reduceLeDiff, V.isNil, bne_self_eq_false]
  refine appRune_C hr (vappB_nil (encR_ne r) (by unfold big; omega) ?_)
  simp -implicitDefEqProofs only [ho', List.set_set, ho2, bytesV_len, wset, tailW, tailEnd, isLenV, isOneV, vop, vbin, vbinI, vun, ↓reduceIte, Nat.reduceEqDiff, Nat.reduceAdd, vcells, vcut, cutSK, cutVK, cutNK, fillV, spl, Nat.reduceLeDiff, V.isNil, bne_self_eq_false]
  rw [wrap64 (by omega)]
  exact .inl (by simpa using h)

theorem writeRune_C {o i r : Nat} {u : Bool} {b : List UInt8} {σ : St} {Q : Out → St → Prop} (ho : σ.objs[o]? = some (bldV u o i b)) (ht : σ.tys[o]? = some 91) (hr : r < 2147483648) (hb : b ≠ []) (hbl : (b ++ encR r).length ≤ big) (h1 : σ.toks[i]? = some b.length) (h2 : σ.tts[i]? = some 5)
    (h : Q (.ret (.tup [.int .i64 ((encR r).length : Int), .nilI])) ⟨σ.objs.set o (bldV true o i (b ++ encR r)), σ.maps, σ.toks.set i (b ++ encR r).length, σ.tys, σ.tts⟩) : C Xc 60 [.ref (some (o, 0)), .int .i32 (r : Int)] σ Q := by
  have hlen := encR_len r
  refine body cf_bWriteRune (Eq.refl true) ?_
  simp -implicitDefEqProofs only [vf_bWriteRune, wset, tailW, tailEnd, isLenV, isOneV, vop, vbin, vbinI, vun, ↓reduceIte, Nat.reduceEqDiff, Nat.reduceAdd, vcells, vcut, cutSK, cutVK, cutNK, fillV, spl, Nat.reduceLeDiff, V.isNil, bne_self_eq_false]
  refine copyCheck_C ho ht ?_
  have ho' := set_get (y := bldV true o i b) ho
  have ho2 := set_get (y := bldV true o i (b ++ encR r)) ho
  have e : bldV true o i b = [.ref (some (o, 0)), .slc true (bytesV b) (.own i)] := by rw [bldV, if_neg hb]; rfl
  have e2 : bldV true o i (b ++ encR r) = [.ref (some (o, 0)), .slc true (bytesV (b ++ encR r)) (.own i)] := by rw [bldV, if_neg (show ¬ (b ++ encR r = []) by simp [hb])]; rfl
  rw [e2] at h ho2
  rw [e] at ho' ⊢
  simp -implicitDefEqProofs only [ho', wset, tailW, tailEnd, isLenV, isOneV, vop, vbin, vbinI, vun, ↓reduceIte, Nat.reduceEqDiff, Nat.reduceAdd, vcells, vcut, cutSK, cutVK, cutNK, fillV, spl, Nat.reduceLeDiff, V.isNil, bne_self_eq_false]
  refine appRune_C hr (vappB_own hb hbl h1 h2 ?_)
  simp -implicitDefEqProofs only [ho', List.set_set, ho2, bytesV_len, wset, tailW, tailEnd, isLenV, isOneV, vop, vbin, vbinI, vun, ↓reduceIte, Nat.reduceEqDiff, Nat.reduceAdd, vcells, vcut, cutSK, cutVK, cutNK, fillV, spl, Nat.reduceLeDiff, V.isNil, bne_self_eq_false]
  unfold big at hbl
  rw [List.length_append] at hbl
  rw [wrap64 (by omega)]
  refine .inl ?_
  have : ((b.length + (encR r).length : Nat) : Int) - (b.length : Int) = ((encR r).length : Int) := by omega
  rw [this]
  simpa using h

theorem vbytes_bytesV (b : List UInt8) : vbytes (bytesV b) = some b := by
  induction b with
  | nil => rfl
  | cons c r ih =>
    have hc := c.toNat_lt
    show (if (0 : Int) ≤ (c.toNat : Int) ∧ (c.toNat : Int) < 256 then (vbytes (bytesV r)).map ((c.toNat : Int).toNat.toUInt8 :: ·) else none) = _
    rw [if_pos (by omega), ih]
    simp
theorem bString_C {o i : Nat} {u : Bool} {b : List UInt8} {σ : St} {Q : Out → St → Prop} (ho : σ.objs[o]? = some (bldV u o i b)) (hbl : b.length ≤ big) (h1 : b ≠ [] → σ.toks[i]? = some b.length ∧ σ.tts[i]? = some 5)
    (h : Q (.ret (.str b)) σ) : C Xc 58 [.ref (some (o, 0))] σ Q := by
  refine body cf_bString (Eq.refl true) ?_
  by_cases hb : b = []
  · subst hb
    have e : bldV u o i [] = [if u then .ref (some (o, 0)) else .ref none, .slc false [] .no] := rfl
    rw [e] at ho
    simp -implicitDefEqProofs only [vf_bString, ho, wset, tailW, tailEnd, isLenV, isOneV, vop, vbin, vbinI, vun, ↓reduceIte, Nat.reduceEqDiff, Nat.reduceAdd, vcells, vcut, cutSK, cutVK, cutNK, fillV, spl, Nat.reduceLeDiff, V.isNil, bne_self_eq_false]
    exact ⟨rfl, .inl h⟩
  · have e : bldV u o i b = [if u then .ref (some (o, 0)) else .ref none, .slc true (bytesV b) (.own i)] := by rw [bldV, if_neg hb]
    rw [e] at ho
    obtain ⟨h1, h2⟩ := h1 hb
    simp -implicitDefEqProofs only [vf_bString, ho, h1, h2, vbytes_bytesV, wset, tailW, tailEnd, isLenV, isOneV, vop, vbin, vbinI, vun, ↓reduceIte, Nat.reduceEqDiff, Nat.reduceAdd, vcells, vcut, cutSK, cutVK, cutNK, fillV, spl, Nat.reduceLeDiff, V.isNil, bne_self_eq_false]
    refine ⟨by rw [bytesV_len], fun e => hb (bytesV_nil.1 e), fun y hy => ?_, by rw [bytesV_len], hbl, hb, .inl h⟩
    obtain ⟨c, _, rfl⟩ := List.mem_map.1 hy
    exact ⟨rfl, rfl⟩
end Go.Proofs.YtgdcdkgmeomhpaaGreatDoor

namespace Go.Proofs.YtgdcdkgmeomhpaaGreatDoor
open Go Go.Vs
set_option maxRecDepth 20000
attribute [local irreducible] chooseK

/-- What may follow in a string: its bytes and the offset behind it, or an offset and an error; from offset i, with the bytes so far. -/
def strS (s : List UInt8) (at0 : Nat) : Nat → Nat → List UInt8 → List UInt8 × Nat × Nat
  | 0, _, _ => ([], at0, 8)
  | k + 1, i, b =>
    if s.length ≤ i then ([], at0, 8)
    else
      let d := decT (s.drop i)
      if d.2 = 0 then ([], i, 5)
      else if d.1 < 32 then ([], i, 6)
      else if d.1 = 34 then (b, i + 1, 0)
      else if d.1 = 92 then
        if i + 1 = s.length then ([], at0, 8)
        else
          let e := seqS (s.drop i)
          if e.2 = 0 then ([], i, 16)
          else strS s at0 k (i + e.2) (b ++ encR e.1)
      else strS s at0 k (i + d.2) (b ++ encR d.1)

/-- A JSON string at an offset. -/
def strP (s : List UInt8) (i : Nat) : List UInt8 × Nat × Nat := if i < s.length ∧ bN s i = 34 then strS s i (s.length - i) (i + 1) [] else ([], i, 7)

theorem decT_cases (l : List UInt8) : decT l = (0, 0) ∨ (1 ≤ (decT l).2 ∧ (decT l).2 ≤ l.length ∧
    (((decT l).2 = 1 ∧ (decT l).1 < 128) ∨ ((decT l).2 = 2 ∧ 128 ≤ (decT l).1 ∧ (decT l).1 < 2048) ∨ ((decT l).2 = 3 ∧ 2048 ≤ (decT l).1 ∧ (decT l).1 < 65536 ∧ ((decT l).1 < 55296 ∨ 57343 < (decT l).1)) ∨ ((decT l).2 = 4 ∧ 65536 ≤ (decT l).1 ∧ (decT l).1 ≤ 1114111))) := by
  unfold decT
  split
  · exact .inl rfl
  split
  · exact .inl rfl
  rename_i hne hbad
  have hl : 0 < l.length := List.length_pos_iff.2 hne
  have h0 := bN_lt l 0
  right
  unfold decS Lib.decodeN at hbad ⊢
  split
  · exact ⟨Nat.le_refl 1, by dsimp only; omega, .inl ⟨rfl, by dsimp only; omega⟩⟩
  rename_i h1
  rw [if_neg h1] at hbad
  split
  · rename_i h2
    rw [if_pos h2] at hbad
    split
    · exact ⟨by dsimp only; omega, by dsimp only; omega, .inr (.inl ⟨rfl, by dsimp only; omega, by dsimp only; omega⟩)⟩
    · rename_i h3; rw [if_neg h3] at hbad; exact absurd rfl hbad
  rename_i h2
  rw [if_neg h2] at hbad
  split
  · rename_i h3
    rw [if_pos h3] at hbad
    split
    · exact ⟨by dsimp only; omega, by dsimp only; omega, .inr (.inr (.inl ⟨rfl, by dsimp only; omega, by dsimp only; omega, by dsimp only; omega⟩))⟩
    · rename_i h4; rw [if_neg h4] at hbad; exact absurd rfl hbad
  rename_i h3
  rw [if_neg h3] at hbad
  split
  · rename_i h4
    rw [if_pos h4] at hbad
    split
    · exact ⟨by dsimp only; omega, by dsimp only; omega, .inr (.inr (.inr ⟨rfl, by dsimp only; omega, by dsimp only; omega⟩))⟩
    · rename_i h5; rw [if_neg h5] at hbad; exact absurd rfl hbad
  · rename_i h4; rw [if_neg h4] at hbad; exact absurd rfl hbad

theorem encR_length (r : Nat) : (encR r).length = if r ≤ 127 then 1 else if r ≤ 2047 then 2 else if r < 55296 ∨ (57343 < r ∧ r ≤ 65535) then 3 else if 65535 < r ∧ r ≤ 1114111 then 4 else 3 := by
  unfold encR encN
  repeat' split
  all_goals simp_all

theorem decT_enc (l : List UInt8) (h : (decT l).2 ≠ 0) : (encR (decT l).1).length ≤ (decT l).2 ∧ (decT l).1 < 2147483648 ∧ (decT l).2 ≤ l.length := by
  rcases decT_cases l with e | ⟨h1, h2, h3⟩
  · rw [e] at h; exact absurd rfl h
  · rw [encR_length]
    refine ⟨?_, by omega, h2⟩
    repeat' split
    all_goals omega

theorem seqS_enc (l : List UInt8) (hl : 2 ≤ l.length) (h : (seqS l).2 ≠ 0) : (encR (seqS l).1).length ≤ (seqS l).2 ∧ (seqS l).1 < 2147483648 ∧ (seqS l).2 ≤ l.length := by
  have key : (seqS l).1 < 128 ∧ (seqS l).2 = 2 ∨ (seqS l).1 < 65536 ∧ (seqS l).2 = 6 ∧ 6 ≤ l.length ∨ (seqS l).1 ≤ 1114111 ∧ (seqS l).2 = 12 ∧ 12 ≤ l.length ∨ (seqS l).2 = 0 := by
    unfold seqS
    split
    · exact .inl ⟨by dsimp only; omega, rfl⟩
    split
    · rename_i v hv
      refine .inl ⟨?_, rfl⟩
      unfold letV at hv
      repeat' split at hv
      all_goals first | (cases hv; decide) | cases hv
    split
    · exact .inr (.inr (.inr rfl))
    · rename_i r hr
      have hr1 := unitS_lt hr
      have hr2 := unitS_len hr
      split
      · exact .inr (.inr (.inr rfl))
      split
      · exact .inr (.inl ⟨hr1, rfl, hr2⟩)
      split
      · exact .inr (.inr (.inr rfl))
      · rename_i q hq
        have hq1 := unitS_lt hq
        have hq2 := unitS_len hq
        rw [List.length_drop] at hq2
        split
        · exact .inr (.inr (.inr rfl))
        · exact .inr (.inr (.inl ⟨by dsimp only; omega, rfl, by omega⟩))
  rw [encR_length]
  refine ⟨?_, by omega, by omega⟩
  repeat' split
  all_goals omega

/-- The store in which a builder has been made and filled. -/
def jst (σ : St) (b : List UInt8) : St :=
  if b = [] then ⟨σ.objs ++ [bldV false σ.objs.length 0 []], σ.maps, σ.toks, σ.tys ++ [91], σ.tts⟩
  else ⟨σ.objs ++ [bldV true σ.objs.length σ.toks.length b], σ.maps, σ.toks ++ [b.length], σ.tys ++ [91], σ.tts ++ [5]⟩

theorem jst_write {σ : St} (hw : σ.wf) {b : List UInt8} {r : Nat} {Q : Out → St → Prop} (hr : r < 2147483648) (hbl : (b ++ encR r).length ≤ big) (h : Q (.ret (.tup [.int .i64 ((encR r).length : Int), .nilI])) (jst σ (b ++ encR r))) :
    C Xc 60 [.ref (some (σ.objs.length, 0)), .int .i32 (r : Int)] (jst σ b) Q := by
  have hy : ∀ y, (σ.tys ++ [y])[σ.objs.length]? = some y := fun y => app_get _ _ hw.1
  by_cases hb : b = []
  · subst hb
    rw [jst, if_pos rfl]
    refine writeRune0_C (app_get _ _ rfl) (hy _) hr ?_
    rw [List.nil_append, jst, if_neg (encR_ne r)] at h
    simp only [app_set _ _ _ (Eq.refl σ.objs.length)]
    exact h
  · rw [jst, if_neg hb]
    refine writeRune_C (app_get _ _ rfl) (hy _) hr hb hbl (app_get _ _ rfl) (app_get _ _ hw.2) ?_
    rw [jst, if_neg (by simp [hb])] at h
    simp only [app_set _ _ _ (Eq.refl σ.objs.length), app_set _ _ _ (Eq.refl σ.toks.length)]
    exact h

theorem jst_string {σ : St} (hw : σ.wf) {b : List UInt8} {Q : Out → St → Prop} (hbl : b.length ≤ big) (h : Q (.ret (.str b)) (jst σ b)) :
    C Xc 58 [.ref (some (σ.objs.length, 0))] (jst σ b) Q := by
  by_cases hb : b = []
  · subst hb
    rw [jst, if_pos rfl] at h ⊢
    exact bString_C (app_get _ _ rfl) hbl (fun e => absurd rfl e) h
  · rw [jst, if_neg hb] at h ⊢
    exact bString_C (app_get _ _ rfl) hbl (fun _ => ⟨app_get _ _ rfl, app_get _ _ hw.2⟩) h

theorem jst_exit {σ : St} (hw : σ.wf) {b : List UInt8} {Q : Out → St → Prop} {out : Out} (hc : out.clean σ.toks.length = out) (hf : out.fits σ.objs.length σ.maps.length σ.toks.length = true) (h : Q out σ) : ExitOk σ Q out (jst σ b) := by
  unfold jst
  split
  · exact exitNew hw hc hf h
  · have := exitCut (σ0 := σ) (O := σ.objs) (xo := [bldV true σ.objs.length σ.toks.length b]) (M := σ.maps) (xm := []) (T := σ.toks) (xt := [b.length]) (Y := σ.tys) (xy := [91]) (TT := σ.tts) (xtt := [5]) (Q := Q) (out := out) rfl rfl rfl hw.1 hw.2 (by rw [hc]; exact hf) (fun o cs ho => .inl ho) (fun r es hr => .inl hr) (by rw [hc]; exact h)
    simpa using this

theorem jsParse_C {s : List UInt8} {i : Nat} {σ : St} {Q : Out → St → Prop} (hi : i ≤ s.length) (hs : s.length ≤ big) (h : Q (.ret (.tup [.str (strP s i).1, .int .i64 ((strP s i).2.1 : Int), .int .i64 ((strP s i).2.2 : Int)])) σ) : C Xc 45 [.str s, .int .i64 (i : Int)] σ Q := by
  have hs' := hs
  unfold big at hs'
  refine bodyW cf_jsParse (Eq.refl true) fun hw => ?_
  have hn : decide ((i : Int) < 0) = false := decide_eq_false (by omega)
  simp -implicitDefEqProofs only [vf_jsParse, hn, wset, tailW, tailEnd, isLenV, isOneV, vop, vbin, vbinI, vun, ↓reduceIte, Nat.reduceEqDiff, Nat.reduceAdd, vcells, vcut, cutSK, cutVK, cutNK, fillV, spl, Nat.reduceLeDiff, V.isNil, bne_self_eq_false]
  have hc0 : ((s.getD ((i : Int).toNat) 0).toNat) = bN s i := rfl
  refine chooseK_split (fun h1 => ?_) (fun h1 => ?_) <;> simp -implicitDefEqProofs only [h1, wset, tailW, tailEnd, isLenV, isOneV, vop, vbin, vbinI, vun, ↓reduceIte, Nat.reduceEqDiff, Nat.reduceAdd, vcells, vcut, cutSK, cutVK, cutNK, fillV, spl, Nat.reduceLeDiff, V.isNil, bne_self_eq_false]
  · rw [strP, if_neg (by simp at h1; omega)] at h
    exact .inl h
  have hi' : i < s.length := by simp at h1; omega
  refine ⟨by omega, ?_⟩
  refine chooseK_split (fun h2 => ?_) (fun h2 => ?_) <;> simp -implicitDefEqProofs only [h2, wset, tailW, tailEnd, isLenV, isOneV, vop, vbin, vbinI, vun, ↓reduceIte, Nat.reduceEqDiff, Nat.reduceAdd, vcells, vcut, cutSK, cutVK, cutNK, fillV, spl, Nat.reduceLeDiff, V.isNil, bne_self_eq_false]
  · have : bN s i ≠ 34 := by simp [bN] at h2 ⊢; omega
    rw [strP, if_neg (fun e => this e.2)] at h
    exact .inl h
  have h34 : bN s i = 34 := by simp [bN] at h2 ⊢; omega
  rw [strP, if_pos ⟨hi', h34⟩] at h
  refine LoopP.intro (fun n fr σ' => ∃ (j : Nat) (b : List UInt8), i < j ∧ j ≤ s.length ∧ s.length < j + n ∧ b.length ≤ j ∧ Q (.ret (.tup [.str (strS s i n j b).1, .int .i64 ((strS s i n j b).2.1 : Int), .int .i64 ((strS s i n j b).2.2 : Int)])) σ ∧ fr 0 = .str s ∧ fr 1 = .int .i64 (i : Int) ∧ fr 7 = .ref (some (σ.objs.length, 0)) ∧ fr 8 = .int .i64 (j : Int) ∧ σ' = jst σ b) (s.length - i)
    ⟨i + 1, [], by omega, by omega, by omega, by simp, h, by simp -implicitDefEqProofs only [wset, tailW, tailEnd, isLenV, isOneV, vop, vbin, vbinI, vun, ↓reduceIte, Nat.reduceEqDiff, Nat.reduceAdd, vcells, vcut, cutSK, cutVK, cutNK, fillV, spl, Nat.reduceLeDiff, V.isNil, bne_self_eq_false], by simp -implicitDefEqProofs only [wset, tailW, tailEnd, isLenV, isOneV, vop, vbin, vbinI, vun, ↓reduceIte, Nat.reduceEqDiff, Nat.reduceAdd, vcells, vcut, cutSK, cutVK, cutNK, fillV, spl, Nat.reduceLeDiff, V.isNil, bne_self_eq_false], by simp -implicitDefEqProofs only [wset, tailW, tailEnd, isLenV, isOneV, vop, vbin, vbinI, vun, ↓reduceIte, Nat.reduceEqDiff, Nat.reduceAdd, vcells, vcut, cutSK, cutVK, cutNK, fillV, spl, Nat.reduceLeDiff, V.isNil, bne_self_eq_false], by simp -implicitDefEqProofs only [wset, tailW, tailEnd, isLenV, isOneV, vop, vbin, vbinI, vun, ↓reduceIte, Nat.reduceEqDiff, Nat.reduceAdd, vcells, vcut, cutSK, cutVK, cutNK, fillV, spl, Nat.reduceLeDiff, V.isNil, bne_self_eq_false]; rw [wrap64 (by omega)]; rfl, by rw [jst, if_pos rfl]; rfl⟩ ?_
  clear h
  rintro n fr σ' ⟨j, b, hj0, hj, hjn, hbj, h, f0, f1, f7, f8, rfl⟩
  simp -implicitDefEqProofs only [f0, f1, f7, f8, wset, tailW, tailEnd, isLenV, isOneV, vop, vbin, vbinI, vun, ↓reduceIte, Nat.reduceEqDiff, Nat.reduceAdd, vcells, vcut, cutSK, cutVK, cutNK, fillV, spl, Nat.reduceLeDiff, V.isNil, bne_self_eq_false]
  refine chooseK_split (fun g1 => ?_) (fun g1 => ?_) <;> simp -implicitDefEqProofs only [g1, f0, f1, f7, f8, wset, tailW, tailEnd, isLenV, isOneV, vop, vbin, vbinI, vun, ↓reduceIte, Nat.reduceEqDiff, Nat.reduceAdd, vcells, vcut, cutSK, cutVK, cutNK, fillV, spl, Nat.reduceLeDiff, V.isNil, bne_self_eq_false]
  · have hjl : j < s.length := by simp at g1; omega
    obtain ⟨n, rfl⟩ : ∃ m, n = m + 1 := ⟨n - 1, by omega⟩
    rw [strS, if_neg (by omega)] at h
    refine decode_C (by omega) hs ?_
    rw [Int.toNat_natCast]
    have hd := decT_enc (s.drop j)
    generalize hD : decT (s.drop j) = d at h hd ⊢
    obtain ⟨r, w⟩ := d
    dsimp only at h hd ⊢
    rw [List.length_drop] at hd
    simp -implicitDefEqProofs only [f0, f1, f7, f8, wset, tailW, tailEnd, isLenV, isOneV, vop, vbin, vbinI, vun, ↓reduceIte, Nat.reduceEqDiff, Nat.reduceAdd, vcells, vcut, cutSK, cutVK, cutNK, fillV, spl, Nat.reduceLeDiff, V.isNil, bne_self_eq_false]
    refine chooseK_split (fun g2 => ?_) (fun g2 => ?_) <;> simp -implicitDefEqProofs only [g2, f0, f1, f7, f8, wset, tailW, tailEnd, isLenV, isOneV, vop, vbin, vbinI, vun, ↓reduceIte, Nat.reduceEqDiff, Nat.reduceAdd, vcells, vcut, cutSK, cutVK, cutNK, fillV, spl, Nat.reduceLeDiff, V.isNil, bne_self_eq_false]
    · rw [if_pos (by simp at g2; omega)] at h
      exact jst_exit hw (by rfl) (by rfl) h
    have hw0 : w ≠ 0 := by simp at g2; omega
    have hd := hd hw0
    rw [if_neg hw0] at h
    refine chooseK_split (fun g3 => ?_) (fun g3 => ?_) <;> simp -implicitDefEqProofs only [g3, f0, f1, f7, f8, wset, tailW, tailEnd, isLenV, isOneV, vop, vbin, vbinI, vun, ↓reduceIte, Nat.reduceEqDiff, Nat.reduceAdd, vcells, vcut, cutSK, cutVK, cutNK, fillV, spl, Nat.reduceLeDiff, V.isNil, bne_self_eq_false]
    · rw [if_pos (by simp at g3; omega)] at h
      exact jst_exit hw (by rfl) (by rfl) h
    rw [if_neg (by simp at g3; omega)] at h
    refine chooseK_split (fun g4 => ?_) (fun g4 => ?_) <;> simp -implicitDefEqProofs only [g4, f0, f1, f7, f8, wset, tailW, tailEnd, isLenV, isOneV, vop, vbin, vbinI, vun, ↓reduceIte, Nat.reduceEqDiff, Nat.reduceAdd, vcells, vcut, cutSK, cutVK, cutNK, fillV, spl, Nat.reduceLeDiff, V.isNil, bne_self_eq_false]
    · rw [if_pos (by simp at g4; omega)] at h
      refine jst_string hw (by unfold big; omega) ?_
      simp -implicitDefEqProofs only [f0, f1, f7, f8, wset, tailW, tailEnd, isLenV, isOneV, vop, vbin, vbinI, vun, ↓reduceIte, Nat.reduceEqDiff, Nat.reduceAdd, vcells, vcut, cutSK, cutVK, cutNK, fillV, spl, Nat.reduceLeDiff, V.isNil, bne_self_eq_false]
      rw [wrap64 (by omega)]
      exact jst_exit hw (by rfl) (by rfl) h
    rw [if_neg (by simp at g4; omega)] at h
    refine chooseK_split (fun g5 => ?_) (fun g5 => ?_) <;> simp -implicitDefEqProofs only [g5, f0, f1, f7, f8, wset, tailW, tailEnd, isLenV, isOneV, vop, vbin, vbinI, vun, ↓reduceIte, Nat.reduceEqDiff, Nat.reduceAdd, vcells, vcut, cutSK, cutVK, cutNK, fillV, spl, Nat.reduceLeDiff, V.isNil, bne_self_eq_false]
    · rw [if_neg (by simp at g5; omega)] at h
      have hb2 : (b ++ encR r).length ≤ j + w := by rw [List.length_append]; omega
      refine jst_write hw (by omega) (by unfold big; omega) ?_
      simp -implicitDefEqProofs only [f0, f1, f7, f8, wset, tailW, tailEnd, isLenV, isOneV, vop, vbin, vbinI, vun, ↓reduceIte, Nat.reduceEqDiff, Nat.reduceAdd, vcells, vcut, cutSK, cutVK, cutNK, fillV, spl, Nat.reduceLeDiff, V.isNil, bne_self_eq_false]
      exact ⟨n, by omega, j + w, b ++ encR r, by omega, by omega, by omega, hb2, h, by simp -implicitDefEqProofs only [f0, wset, tailW, tailEnd, isLenV, isOneV, vop, vbin, vbinI, vun, ↓reduceIte, Nat.reduceEqDiff, Nat.reduceAdd, vcells, vcut, cutSK, cutVK, cutNK, fillV, spl, Nat.reduceLeDiff, V.isNil, bne_self_eq_false], by simp -implicitDefEqProofs only [f1, wset, tailW, tailEnd, isLenV, isOneV, vop, vbin, vbinI, vun, ↓reduceIte, Nat.reduceEqDiff, Nat.reduceAdd, vcells, vcut, cutSK, cutVK, cutNK, fillV, spl, Nat.reduceLeDiff, V.isNil, bne_self_eq_false], by simp -implicitDefEqProofs only [f7, wset, tailW, tailEnd, isLenV, isOneV, vop, vbin, vbinI, vun, ↓reduceIte, Nat.reduceEqDiff, Nat.reduceAdd, vcells, vcut, cutSK, cutVK, cutNK, fillV, spl, Nat.reduceLeDiff, V.isNil, bne_self_eq_false], by simp -implicitDefEqProofs only [wset, tailW, tailEnd, isLenV, isOneV, vop, vbin, vbinI, vun, ↓reduceIte, Nat.reduceEqDiff, Nat.reduceAdd, vcells, vcut, cutSK, cutVK, cutNK, fillV, spl, Nat.reduceLeDiff, V.isNil, bne_self_eq_false]; rw [wrap64 (by omega)]; rfl, rfl⟩
    rw [if_pos (by simp at g5; omega)] at h
    have hwr : IntKind.wrap .i64 ((j : Int) + 1) = (j : Int) + 1 := wrap64 (by omega)
    refine chooseK_split (fun g6 => ?_) (fun g6 => ?_) <;> simp -implicitDefEqProofs only [g6, f0, f1, f7, f8, wset, tailW, tailEnd, isLenV, isOneV, vop, vbin, vbinI, vun, ↓reduceIte, Nat.reduceEqDiff, Nat.reduceAdd, vcells, vcut, cutSK, cutVK, cutNK, fillV, spl, Nat.reduceLeDiff, V.isNil, bne_self_eq_false]
    · rw [hwr] at g6
      rw [if_pos (by simp at g6; omega)] at h
      exact jst_exit hw (by rfl) (by rfl) h
    · rw [hwr] at g6
      have hj1 : j + 1 ≠ s.length := by simp at g6; omega
      rw [if_neg hj1] at h
      refine ⟨by omega, ?_⟩
      rw [cut_drop]
      have hl2 : 2 ≤ (s.drop j).length := by rw [List.length_drop]; omega
      refine seq_C hl2 (by rw [List.length_drop]; omega) ?_
      have hd := seqS_enc (s.drop j) hl2
      generalize seqS (s.drop j) = d at h hd ⊢
      obtain ⟨r', w'⟩ := d
      dsimp only at h hd ⊢
      rw [List.length_drop] at hd
      simp -implicitDefEqProofs only [f0, f1, f7, f8, wset, tailW, tailEnd, isLenV, isOneV, vop, vbin, vbinI, vun, ↓reduceIte, Nat.reduceEqDiff, Nat.reduceAdd, vcells, vcut, cutSK, cutVK, cutNK, fillV, spl, Nat.reduceLeDiff, V.isNil, bne_self_eq_false]
      refine chooseK_split (fun g7 => ?_) (fun g7 => ?_) <;> simp -implicitDefEqProofs only [g7, f0, f1, f7, f8, wset, tailW, tailEnd, isLenV, isOneV, vop, vbin, vbinI, vun, ↓reduceIte, Nat.reduceEqDiff, Nat.reduceAdd, vcells, vcut, cutSK, cutVK, cutNK, fillV, spl, Nat.reduceLeDiff, V.isNil, bne_self_eq_false]
      · rw [if_pos (by simp at g7; omega)] at h
        exact jst_exit hw (by rfl) (by rfl) h
      · have hw0' : w' ≠ 0 := by simp at g7; omega
        have hd := hd hw0'
        rw [if_neg hw0'] at h
        have hb2 : (b ++ encR r').length ≤ j + w' := by rw [List.length_append]; omega
        refine jst_write hw (by omega) (by unfold big; omega) ?_
        simp -implicitDefEqProofs only [f0, f1, f7, f8, wset, tailW, tailEnd, isLenV, isOneV, vop, vbin, vbinI, vun, ↓reduceIte, Nat.reduceEqDiff, Nat.reduceAdd, vcells, vcut, cutSK, cutVK, cutNK, fillV, spl, Nat.reduceLeDiff, V.isNil, bne_self_eq_false]
        exact ⟨n, by omega, j + w', b ++ encR r', by omega, by omega, by omega, hb2, h, by simp -implicitDefEqProofs only [f0, wset, tailW, tailEnd, isLenV, isOneV, vop, vbin, vbinI, vun, ↓reduceIte, Nat.reduceEqDiff, Nat.reduceAdd, vcells, vcut, cutSK, cutVK, cutNK, fillV, spl, Nat.reduceLeDiff, V.isNil, bne_self_eq_false], by simp -implicitDefEqProofs only [f1, wset, tailW, tailEnd, isLenV, isOneV, vop, vbin, vbinI, vun, ↓reduceIte, Nat.reduceEqDiff, Nat.reduceAdd, vcells, vcut, cutSK, cutVK, cutNK, fillV, spl, Nat.reduceLeDiff, V.isNil, bne_self_eq_false], by simp -implicitDefEqProofs only [f7, wset, tailW, tailEnd, isLenV, isOneV, vop, vbin, vbinI, vun, ↓reduceIte, Nat.reduceEqDiff, Nat.reduceAdd, vcells, vcut, cutSK, cutVK, cutNK, fillV, spl, Nat.reduceLeDiff, V.isNil, bne_self_eq_false], by simp -implicitDefEqProofs only [wset, tailW, tailEnd, isLenV, isOneV, vop, vbin, vbinI, vun, ↓reduceIte, Nat.reduceEqDiff, Nat.reduceAdd, vcells, vcut, cutSK, cutVK, cutNK, fillV, spl, Nat.reduceLeDiff, V.isNil, bne_self_eq_false]; rw [wrap64 (by omega)]; rfl, rfl⟩
  · have hz : strS s i n j b = ([], i, 8) := by
      cases n with
      | zero => rfl
      | succ n => rw [strS, if_pos (by simp at g1; omega)]
    rw [hz] at h
    exact jst_exit hw (by rfl) (by rfl) h
end Go.Proofs.YtgdcdkgmeomhpaaGreatDoor

namespace Go.Proofs
open Go.Shelf

def Tryz.lays174_ren : Go.Shelf.Ren := ⟨fun | 174 => 48 | 247 => 66 | 245 => 67 | 287 => 77 | 279 => 78 | 280 => 79 | 281 => 80 | 282 => 81 | 321 => 87 | 322 => 88 | 316 => 89 | 171 => 91 | 205 => 90 | 243 => 95 | 246 => 96 | 283 => 97 | 284 => 98 | 285 => 99 | 286 => 100 | 129 => 102 | 317 => 101 | 318 => 103 | 319 => 104 | 320 => 105 | 337 => 106 | 338 => 107 | n => n, fun | 9 => 9 | 3 => 3 | 2 => 2 | 75 => 77 | 85 => 78 | 4 => 4 | 167 => 114 | 5 => 5 | 53 => 87 | 175 => 115 | 46 => 111 | 168 => 117 | 37 => 89 | 0 => 0 | 210 => 127 | 21 => 21 | 127 => 106 | 145 => 138 | 143 => 136 | 171 => 140 | 173 => 143 | 212 => 146 | 51 => 122 | 20 => 20 | 213 => 147 | 232 => 151 | 233 => 152 | 80 => 62 | n => n, fun | 15 => 2 | 16 => 3 | 17 => 6 | 18 => 7 | 19 => 8 | n => n⟩
theorem Tryz.lays174 : Go.Proofs.LaysC.n174 Tryz.prog Tryz.lays174_ren where
  mixed := by kernel_rfl
  f129 := Tryz.func102.trans (congrArg some (by kernel_rfl))
  f171 := Tryz.func91.trans (congrArg some (by kernel_rfl))
  f174 := Tryz.func48.trans (congrArg some (by kernel_rfl))
  f205 := Tryz.func90.trans (congrArg some (by kernel_rfl))
  f243 := Tryz.func95.trans (congrArg some (by kernel_rfl))
  f245 := Tryz.func67.trans (congrArg some (by kernel_rfl))
  f246 := Tryz.func96.trans (congrArg some (by kernel_rfl))
  f247 := Tryz.func66.trans (congrArg some (by kernel_rfl))
  f279 := Tryz.func78.trans (congrArg some (by kernel_rfl))
  f280 := Tryz.func79.trans (congrArg some (by kernel_rfl))
  f281 := Tryz.func80.trans (congrArg some (by kernel_rfl))
  f282 := Tryz.func81.trans (congrArg some (by kernel_rfl))
  f283 := Tryz.func97.trans (congrArg some (by kernel_rfl))
  f284 := Tryz.func98.trans (congrArg some (by kernel_rfl))
  f285 := Tryz.func99.trans (congrArg some (by kernel_rfl))
  f286 := Tryz.func100.trans (congrArg some (by kernel_rfl))
  f287 := Tryz.func77.trans (congrArg some (by kernel_rfl))
  f316 := Tryz.func89.trans (congrArg some (by kernel_rfl))
  f317 := Tryz.func101.trans (congrArg some (by kernel_rfl))
  f318 := Tryz.func103.trans (congrArg some (by kernel_rfl))
  f319 := Tryz.func104.trans (congrArg some (by kernel_rfl))
  f320 := Tryz.func105.trans (congrArg some (by kernel_rfl))
  f321 := Tryz.func87.trans (congrArg some (by kernel_rfl))
  f322 := Tryz.func88.trans (congrArg some (by kernel_rfl))
  f337 := Tryz.func106.trans (congrArg some (by kernel_rfl))
  f338 := Tryz.func107.trans (congrArg some (by kernel_rfl))
  t0 := Tryz.underlying0
  a0 := Tryz.isAgg0
  z0 := Tryz.sizeOf0
  v0 := Tryz.zeroValue0
  t2 := Tryz.underlying2
  a2 := Tryz.isAgg2
  z2 := Tryz.sizeOf2
  v2 := Tryz.zeroValue2
  t3 := Tryz.underlying3
  a3 := Tryz.isAgg3
  z3 := Tryz.sizeOf3
  v3 := Tryz.zeroValue3
  t4 := Tryz.underlying4
  a4 := Tryz.isAgg4
  z4 := Tryz.sizeOf4
  v4 := Tryz.zeroValue4
  t5 := Tryz.underlying5
  a5 := Tryz.isAgg5
  z5 := Tryz.sizeOf5
  v5 := Tryz.zeroValue5
  t9 := Tryz.underlying9
  a9 := Tryz.isAgg9
  z9 := Tryz.sizeOf9
  v9 := Tryz.zeroValue9
  t20 := Tryz.underlying20
  a20 := Tryz.isAgg20
  z20 := Tryz.sizeOf20
  v20 := Tryz.zeroValue20
  t21 := Tryz.underlying21
  a21 := Tryz.isAgg21
  z21 := Tryz.sizeOf21
  v21 := Tryz.zeroValue21
  t37 := Tryz.underlying89
  a37 := Tryz.isAgg89
  z37 := Tryz.sizeOf89
  v37 := Tryz.zeroValue89
  t46 := Tryz.underlying111
  a46 := Tryz.isAgg111
  z46 := Tryz.sizeOf111
  v46 := Tryz.zeroValue111
  t51 := Tryz.underlying122
  a51 := Tryz.isAgg122
  z51 := Tryz.sizeOf122
  v51 := Tryz.zeroValue122
  t53 := Tryz.underlying87
  a53 := Tryz.isAgg87
  z53 := Tryz.sizeOf87
  v53 := Tryz.zeroValue87
  t75 := Tryz.underlying77
  a75 := Tryz.isAgg77
  z75 := Tryz.sizeOf77
  v75 := Tryz.zeroValue77
  t85 := Tryz.underlying78
  a85 := Tryz.isAgg78
  z85 := Tryz.sizeOf78
  v85 := Tryz.zeroValue78
  t127 := Tryz.underlying106
  a127 := Tryz.isAgg106
  z127 := Tryz.sizeOf106
  v127 := Tryz.zeroValue106
  t143 := Tryz.underlying136
  a143 := Tryz.isAgg136
  z143 := Tryz.sizeOf136
  v143 := Tryz.zeroValue136
  t145 := Tryz.underlying138
  a145 := Tryz.isAgg138
  z145 := Tryz.sizeOf138
  v145 := Tryz.zeroValue138
  t167 := Tryz.underlying114
  a167 := Tryz.isAgg114
  z167 := Tryz.sizeOf114
  v167 := Tryz.zeroValue114
  t168 := Tryz.underlying117
  a168 := Tryz.isAgg117
  z168 := Tryz.sizeOf117
  v168 := Tryz.zeroValue117
  t171 := Tryz.underlying140
  a171 := Tryz.isAgg140
  z171 := Tryz.sizeOf140
  v171 := Tryz.zeroValue140
  t173 := Tryz.underlying143
  a173 := Tryz.isAgg143
  z173 := Tryz.sizeOf143
  v173 := Tryz.zeroValue143
  t175 := Tryz.underlying115
  a175 := Tryz.isAgg115
  z175 := Tryz.sizeOf115
  v175 := Tryz.zeroValue115
  t210 := Tryz.underlying127
  a210 := Tryz.isAgg127
  z210 := Tryz.sizeOf127
  v210 := Tryz.zeroValue127
  t212 := Tryz.underlying146
  a212 := Tryz.isAgg146
  z212 := Tryz.sizeOf146
  v212 := Tryz.zeroValue146
  t213 := Tryz.underlying147
  a213 := Tryz.isAgg147
  z213 := Tryz.sizeOf147
  t232 := Tryz.underlying151
  a232 := Tryz.isAgg151
  z232 := Tryz.sizeOf151
  v232 := Tryz.zeroValue151
  t233 := Tryz.underlying152
  a233 := Tryz.isAgg152
  z233 := Tryz.sizeOf152
  v233 := Tryz.zeroValue152
  g15 := by kernel_rfl
  g16 := by kernel_rfl
  g17 := by kernel_rfl
  g18 := by kernel_rfl
  g19 := by kernel_rfl
  t80 := Tryz.underlying62
  a80 := Tryz.isAgg62
  z80 := Tryz.sizeOf62
  v80 := Tryz.zeroValue62
  i0 := by kernel_rfl
  i2 := by kernel_rfl
  i3 := by kernel_rfl
  i4 := by kernel_rfl
  i5 := by kernel_rfl
  i9 := by kernel_rfl
  i20 := by kernel_rfl
  i21 := by kernel_rfl
  i37 := by kernel_rfl
  i46 := by kernel_rfl
  i51 := by kernel_rfl
  i53 := by kernel_rfl
  i75 := by kernel_rfl
  i80 := by kernel_rfl
  i85 := by kernel_rfl
  i127 := by kernel_rfl
  i143 := by kernel_rfl
  i145 := by kernel_rfl
  i167 := by kernel_rfl
  i168 := by kernel_rfl
  i171 := by kernel_rfl
  i173 := by kernel_rfl
  i175 := by kernel_rfl
  i210 := by kernel_rfl
  i212 := by kernel_rfl
  i232 := by kernel_rfl
  i233 := by kernel_rfl
  m15 := by kernel_rfl
  m16 := by kernel_rfl
  m17 := by kernel_rfl
  m18 := by kernel_rfl
  m19 := by kernel_rfl
  c0 := by kernel_rfl
  c2 := by kernel_rfl
  c3 := by kernel_rfl
  c4 := by kernel_rfl
  c5 := by kernel_rfl
  c9 := by kernel_rfl
  c20 := by kernel_rfl
  c21 := by kernel_rfl
  c37 := by kernel_rfl
  c46 := by kernel_rfl
  c51 := by kernel_rfl
  c53 := by kernel_rfl
  c75 := by kernel_rfl
  c80 := by kernel_rfl
  c85 := by kernel_rfl
  c127 := by kernel_rfl
  c143 := by kernel_rfl
  c145 := by kernel_rfl
  c167 := by kernel_rfl
  c168 := by kernel_rfl
  c171 := by kernel_rfl
  c173 := by kernel_rfl
  c175 := by kernel_rfl
  c210 := by kernel_rfl
  c212 := by kernel_rfl
  c213 := by kernel_rfl
  c232 := by kernel_rfl
  c233 := by kernel_rfl
def Tryz.lays161_ren : Go.Shelf.Ren := ⟨fun | 161 => 46 | 231 => 61 | 227 => 62 | 233 => 63 | 235 => 64 | 228 => 75 | 197 => 71 | 151 => 76 | 260 => 83 | 152 => 86 | 137 => 44 | 119 => 92 | 224 => 93 | 225 => 94 | 217 => 56 | 266 => 70 | n => n, fun | 9 => 9 | 4 => 4 | 3 => 3 | 5 => 5 | 117 => 100 | 116 => 99 | 0 => 0 | 124 => 103 | 105 => 92 | 21 => 21 | 119 => 129 | 46 => 111 | 139 => 132 | 138 => 131 | n => n, fun | 3 => 4 | 4 => 5 | n => n⟩
theorem Tryz.lays161 : Go.Proofs.Lays.n161 Tryz.prog Tryz.lays161_ren where
  mixed := by kernel_rfl
  f119 := Tryz.func92.trans (congrArg some (by kernel_rfl))
  f137 := Tryz.func44.trans (congrArg some (by kernel_rfl))
  f151 := Tryz.func76.trans (congrArg some (by kernel_rfl))
  f152 := Tryz.func86.trans (congrArg some (by kernel_rfl))
  f161 := Tryz.func46.trans (congrArg some (by kernel_rfl))
  f197 := Tryz.func71.trans (congrArg some (by kernel_rfl))
  f217 := Tryz.func56.trans (congrArg some (by kernel_rfl))
  f224 := Tryz.func93.trans (congrArg some (by kernel_rfl))
  f225 := Tryz.func94.trans (congrArg some (by kernel_rfl))
  f227 := Tryz.func62.trans (congrArg some (by kernel_rfl))
  f228 := Tryz.func75.trans (congrArg some (by kernel_rfl))
  f231 := Tryz.func61.trans (congrArg some (by kernel_rfl))
  f233 := Tryz.func63.trans (congrArg some (by kernel_rfl))
  f235 := Tryz.func64.trans (congrArg some (by kernel_rfl))
  f260 := Tryz.func83.trans (congrArg some (by kernel_rfl))
  f266 := Tryz.func70.trans (congrArg some (by kernel_rfl))
  t0 := Tryz.underlying0
  a0 := Tryz.isAgg0
  z0 := Tryz.sizeOf0
  v0 := Tryz.zeroValue0
  t3 := Tryz.underlying3
  a3 := Tryz.isAgg3
  z3 := Tryz.sizeOf3
  v3 := Tryz.zeroValue3
  t4 := Tryz.underlying4
  a4 := Tryz.isAgg4
  z4 := Tryz.sizeOf4
  v4 := Tryz.zeroValue4
  t5 := Tryz.underlying5
  a5 := Tryz.isAgg5
  z5 := Tryz.sizeOf5
  v5 := Tryz.zeroValue5
  t9 := Tryz.underlying9
  a9 := Tryz.isAgg9
  z9 := Tryz.sizeOf9
  v9 := Tryz.zeroValue9
  t21 := Tryz.underlying21
  a21 := Tryz.isAgg21
  z21 := Tryz.sizeOf21
  v21 := Tryz.zeroValue21
  t46 := Tryz.underlying111
  a46 := Tryz.isAgg111
  z46 := Tryz.sizeOf111
  v46 := Tryz.zeroValue111
  t105 := Tryz.underlying92
  a105 := Tryz.isAgg92
  z105 := Tryz.sizeOf92
  v105 := Tryz.zeroValue92
  t116 := Tryz.underlying99
  a116 := Tryz.isAgg99
  z116 := Tryz.sizeOf99
  t117 := Tryz.underlying100
  a117 := Tryz.isAgg100
  z117 := Tryz.sizeOf100
  v117 := Tryz.zeroValue100
  t119 := Tryz.underlying129
  a119 := Tryz.isAgg129
  z119 := Tryz.sizeOf129
  t124 := Tryz.underlying103
  a124 := Tryz.isAgg103
  z124 := Tryz.sizeOf103
  v124 := Tryz.zeroValue103
  t138 := Tryz.underlying131
  a138 := Tryz.isAgg131
  z138 := Tryz.sizeOf131
  v138 := Tryz.zeroValue131
  t139 := Tryz.underlying132
  a139 := Tryz.isAgg132
  z139 := Tryz.sizeOf132
  v139 := Tryz.zeroValue132
  g3 := by kernel_rfl
  g4 := by kernel_rfl

end Go.Proofs
