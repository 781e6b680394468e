/- Parts of the proof, joined: The functions of the program, read (printed by wip/tools/seat.py): each is what the reading yields, by the kernel. The parser's small functions: what each does to the abstract store. JSON values: how they lie as abstract values; the parser's words. JSON strings: escape sequences. UTF-8: decoding a rune. JSON strings: escape sequences, the builder. Runes appended; the builder. JSON strings are parsed. The library's contracts that the kit proves once, laid for this program: the numbers, and what they rest on, each by the kernel. The value semantics, part V: a contract of the kit's, made a contract of this semantics. The library's leaves: strings.TrimLeft, strings.TrimPrefix, strconv.ParseInt; the parser's strings and numbers. JSON values: the specification of the parser, and its loop. JSON values: members. JSON values: the parser's value. -/
import Derived.Test.YtgdcdkgmeomhpaaDoorProg
import Derived.KernelRfl
import Derived.Lib.DecodeNEq
import Derived.Lib.RuneBytes
import Derived.Shelf.Strconv.ParseIntPublic10
import Derived.Shelf.Strings.SlTrimAscii
import Derived.Below
import Derived.Lib.AtoiErrMem
import Derived.Test.YtgdcdkgmeomhpaaDoorDe1
import Derived.Test.YtgdcdkgmeomhpaaDoorDe2
set_option linter.unusedVariables false
set_option linter.unusedSimpArgs false

namespace Go.Proofs.YtgdcdkgmeomhpaaDoor
open Go Go.Vs
set_option maxRecDepth 100000

/-- isSpace -/
def vf_isSpace : VFunc :=
  { m := 17, code := (sr [iO 2 (.mov (.c zB))] (sr [iM 3 0, iK 4 .eql 3 .u8 32, iM 5 4, iP 6 5 false 0, iJ 7 5 false .eql 6 .u8 9, iT 8 5 7, iM 9 8, iP 10 9 false 0, iJ 11 9 false .eql 10 .u8 10, iT 12 9 11, iM 13 12, iP 14 13 false 0, iJ 15 13 false .eql 14 .u8 13, iT 16 13 15, iM 2 16] .ret)), res := [(.t 2)] }

theorem cf_isSpace : cfunc Go.Proofs.Tryd.prog 43 = some vf_isSpace := by kernel_rfl

/-- decode -/
def vf_decode : VFunc :=
  { m := 31, code := (sr [iI 4 .i32 0, iI 5 .i64 0] (.seq (sr [iM 8 1, iK 9 .lss 8 .i64 0, iM 10 9, iP 11 10 false 1, iP 12 10 false 0, iG 13 10 false (.lenS (.t 12)), iR 14 10 false .geq 11 13, iT 15 10 14] (.cond (.t 15) (sr [iI 4 .i32 0, iI 5 .i64 0] .ret) .skip)) (sr [iM 17 0, iM 18 1, iO 19 (.slS (.t 17) (some (.t 18)) none), iC 20 71 [(.t 19)], iM 16 20, iE 21 16 0, iE 22 16 1, iM 6 21, iM 7 22] (.seq (sr [iM 23 6, iK 24 .eql 23 .i32 65533, iM 25 24, iP 26 25 true 7, iJ 27 25 true .eql 26 .i64 1, iU 28 25 27] (.cond (.t 28) (sr [iI 4 .i32 0, iI 5 .i64 0] .ret) .skip)) (sr [iM 29 6, iM 30 7, iM 4 29, iM 5 30] .ret))))), res := [(.t 4), (.t 5)] }

theorem cf_decode : cfunc Go.Proofs.Tryd.prog 59 = some vf_decode := by kernel_rfl

/-- spaces -/
def vf_spaces : VFunc :=
  { m := 31, code := (.block 0 (.loop (.seq (.seq (.draw [⟨iM 2 0, none⟩, ⟨iO 3 (.nilck (.t 2)), none⟩, ⟨iF 4 1 3, none⟩, ⟨iL 5 4, none⟩, ⟨iM 6 0, none⟩, ⟨iO 7 (.nilck (.t 6)), none⟩, ⟨iF 8 0 7, none⟩, ⟨iL 9 8, none⟩, ⟨iO 10 (.lenS (.t 9)), none⟩, ⟨iB 11 .lss 5 10, none⟩, ⟨iM 12 11, none⟩, ⟨iP 13 12 true 0, none⟩, ⟨iG 14 12 true (.nilck (.t 13)), none⟩, ⟨iG 15 12 true (.fadr 0 (.t 14)), none⟩, ⟨iG 16 12 true (.loadL (.t 15)), none⟩, ⟨iP 17 12 true 0, none⟩, ⟨iG 18 12 true (.nilck (.t 17)), none⟩, ⟨iG 19 12 true (.fadr 1 (.t 18)), none⟩, ⟨iG 20 12 true (.loadL (.t 19)), none⟩, ⟨iG 21 12 true (.idxS (.t 16) (.t 20)), none⟩, ⟨iH 22 12 true 43 [(.t 21)], (some [])⟩, ⟨iU 23 12 22, none⟩]) (.cond (.t 23) .skip (.exit 0))) (.block 1 (.reg [iM 24 0, iO 25 (.nilck (.t 24)), iF 26 1 25, iL 27 26, iK 28 .add 27 .i64 1, iO 29 (.nilck (.t 24)), iF 30 1 29, iS 1 30 28]))))), res := [] }

theorem cf_spaces : cfunc Go.Proofs.Tryd.prog 26 = some vf_spaces := by kernel_rfl

/-- peek -/
def vf_peek : VFunc :=
  { m := 24, code := (sr [iI 2 .u8 0] (sr [iM 3 0, iC 4 26 [(.t 3)]] (.seq (.seq (.draw [⟨iM 5 0, none⟩, ⟨iO 6 (.nilck (.t 5)), none⟩, ⟨iF 7 1 6, none⟩, ⟨iL 8 7, none⟩, ⟨iM 9 0, none⟩, ⟨iO 10 (.nilck (.t 9)), none⟩, ⟨iF 11 0 10, none⟩, ⟨iL 12 11, none⟩, ⟨iO 13 (.lenS (.t 12)), none⟩, ⟨iB 14 .eql 8 13, none⟩]) (.cond (.t 14) (sr [iI 2 .u8 0] .ret) .skip)) (.seq (.draw [⟨iM 15 0, none⟩, ⟨iO 16 (.nilck (.t 15)), none⟩, ⟨iF 17 0 16, none⟩, ⟨iL 18 17, none⟩, ⟨iM 19 0, none⟩, ⟨iO 20 (.nilck (.t 19)), none⟩, ⟨iF 21 1 20, none⟩, ⟨iL 22 21, none⟩, ⟨iO 23 (.idxS (.t 18) (.t 22)), none⟩, ⟨iM 2 23, none⟩]) .ret)))), res := [(.t 2)] }

theorem cf_peek : cfunc Go.Proofs.Tryd.prog 33 = some vf_peek := by kernel_rfl

/-- wrong -/
def vf_wrong : VFunc :=
  { m := 24, code := (.seq (.seq (.draw [⟨iM 2 0, none⟩, ⟨iO 3 (.nilck (.t 2)), none⟩, ⟨iF 4 1 3, none⟩, ⟨iL 5 4, none⟩, ⟨iM 6 0, none⟩, ⟨iO 7 (.nilck (.t 6)), none⟩, ⟨iF 8 0 7, none⟩, ⟨iL 9 8, none⟩, ⟨iO 10 (.lenS (.t 9)), none⟩, ⟨iB 11 .eql 5 10, none⟩]) (.cond (.t 11) (.reg [iM 12 0, iO 13 (.nilck (.t 12)), iF 14 1 13, iL 15 14, iO 16 (.build [zI, zI] [((0, 1), (.t 15)), ((1, 1), (.c (.int .i64 8)))]), iO 17 (.mkI 50 (.t 16)), ⟨none, none, (.panic (.t 17))⟩]) .skip)) (.reg [iM 18 0, iO 19 (.nilck (.t 18)), iF 20 1 19, iL 21 20, iO 22 (.build [zI, zI] [((0, 1), (.t 21)), ((1, 1), (.c (.int .i64 7)))]), iO 23 (.mkI 50 (.t 22)), ⟨none, none, (.panic (.t 23))⟩])), res := [] }

theorem cf_wrong : cfunc Go.Proofs.Tryd.prog 42 = some vf_wrong := by kernel_rfl

/-- expect -/
def vf_expect : VFunc :=
  { m := 29, code := (.seq (.seq (.draw [⟨iM 4 0, none⟩, ⟨iM 6 1, none⟩, ⟨iC 5 33 [(.t 4)], (some [iM 6 1])⟩, ⟨iB 7 .neq 5 6, none⟩, ⟨iM 8 7, none⟩, ⟨iP 9 8 false 0, none⟩, ⟨iG 10 8 false (.nilck (.t 9)), none⟩, ⟨iG 11 8 false (.fadr 1 (.t 10)), none⟩, ⟨iG 12 8 false (.loadL (.t 11)), none⟩, ⟨iP 13 8 false 0, none⟩, ⟨iG 14 8 false (.nilck (.t 13)), none⟩, ⟨iG 15 8 false (.fadr 0 (.t 14)), none⟩, ⟨iG 16 8 false (.loadL (.t 15)), none⟩, ⟨iG 17 8 false (.lenS (.t 16)), none⟩, ⟨iR 18 8 false .eql 12 17, none⟩, ⟨iT 19 8 18, none⟩]) (.cond (.t 19) (.reg [iM 20 0, iC 21 42 [(.t 20)]]) .skip)) (.reg [iM 22 0, iO 23 (.nilck (.t 22)), iF 24 1 23, iL 25 24, iK 26 .add 25 .i64 1, iO 27 (.nilck (.t 22)), iF 28 1 27, iS 1 28 26])), res := [] }

theorem cf_expect : cfunc Go.Proofs.Tryd.prog 53 = some vf_expect := by kernel_rfl

/-- pstr -/
def vf_pstr : VFunc :=
  { m := 30, code := (sr [iO 2 (.mov (.c zS))] (.seq (.draw [⟨iM 7 0, none⟩, ⟨iO 8 (.nilck (.t 7)), none⟩, ⟨iF 9 0 8, none⟩, ⟨iL 10 9, none⟩, ⟨iM 11 0, none⟩, ⟨iO 12 (.nilck (.t 11)), none⟩, ⟨iF 13 1 12, none⟩, ⟨iL 14 13, none⟩, ⟨iC 15 49 [(.t 10), (.t 14)], (some [])⟩, ⟨iM 6 15, none⟩, ⟨iE 16 6 0, none⟩, ⟨iE 17 6 1, none⟩, ⟨iE 18 6 2, none⟩, ⟨iM 3 16, none⟩, ⟨iM 4 17, none⟩, ⟨iM 5 18, none⟩]) (.seq (sr [iM 19 5, iK 20 .neq 19 .i64 0] (.cond (.t 20) (.reg [iM 21 4, iM 22 5, iO 23 (.build [zI, zI] [((0, 1), (.t 21)), ((1, 1), (.t 22))]), iO 24 (.mkI 50 (.t 23)), ⟨none, none, (.panic (.t 24))⟩]) .skip)) (sr [iM 25 0, iM 26 4, iO 27 (.nilck (.t 25)), iF 28 1 27, iS 1 28 26] (sr [iM 29 3, iM 2 29] .ret))))), res := [(.t 2)] }

theorem cf_pstr : cfunc Go.Proofs.Tryd.prog 36 = some vf_pstr := by kernel_rfl

/-- pnumber -/
def vf_pnumber : VFunc :=
  { m := 66, code := (sr [iI 2 .i64 0] (.seq (.draw [⟨iM 8 0, none⟩, ⟨iO 9 (.nilck (.t 8)), none⟩, ⟨iF 10 0 9, none⟩, ⟨iL 11 10, none⟩, ⟨iM 12 0, none⟩, ⟨iO 13 (.nilck (.t 12)), none⟩, ⟨iF 14 1 13, none⟩, ⟨iL 15 14, none⟩, ⟨iO 16 (.slS (.t 11) (some (.t 15)) none), none⟩, ⟨iM 3 16, none⟩]) (sr [iM 17 3, iO 18 (.lenS (.t 17)), iM 19 3, iC 20 50 [(.t 19), (.c (.str [48, 49, 50, 51, 52, 53, 54, 55, 56, 57, 43, 45, 46, 101, 69]))], iO 21 (.lenS (.t 20)), iB 22 .sub 18 21, iM 4 22] (sr [iM 23 3, iM 24 4, iO 25 (.slS (.t 23) none (some (.t 24))), iC 26 51 [(.t 25), (.c (.str [45]))], iM 5 26] (sr [iM 28 3, iM 29 4, iO 30 (.slS (.t 28) none (some (.t 29))), iC 31 52 [(.t 30), (.c (.int .i64 10)), (.c (.int .i64 64))], iM 27 31, iE 32 27 0, iE 33 27 1, iM 6 32, iM 7 33] (.seq (sr [iM 34 7, iO 35 (.eqN .i true (.t 34) (.c .nilI)), iM 36 35, iP 37 36 false 3, iG 38 36 false (.idxS (.t 37) (.c zI)), iJ 39 36 false .eql 38 .u8 43, iT 40 36 39, iM 41 40, iP 42 41 false 5, iG 43 41 false (.idxS (.t 42) (.c zI)), iJ 44 41 false .eql 43 .u8 48, iP 45 41 false 44, iP 46 45 true 5, iG 47 45 true (.lenS (.t 46)), iJ 48 45 true .gtr 47 .i64 1, iG 49 41 false (.pick (.t 45) (.t 48) (.c zB)), iT 50 41 49] (.cond (.t 50) (.reg [iM 51 0, iO 52 (.nilck (.t 51)), iF 53 1 52, iL 54 53, iO 55 (.build [zI, zI] [((0, 1), (.t 54)), ((1, 1), (.c (.int .i64 15)))]), iO 56 (.mkI 50 (.t 55)), ⟨none, none, (.panic (.t 56))⟩]) .skip)) (sr [iM 57 0, iO 58 (.nilck (.t 57)), iF 59 1 58, iL 60 59, iM 61 4, iB 62 .add 60 61, iO 63 (.nilck (.t 57)), iF 64 1 63, iS 1 64 62] (sr [iM 65 6, iM 2 65] .ret)))))))), res := [(.t 2)] }

theorem cf_pnumber : cfunc Go.Proofs.Tryd.prog 37 = some vf_pnumber := by kernel_rfl

/-- pword -/
def vf_pword : VFunc :=
  { m := 35, code := (sr [iO 5 (.box 25 (.t 2)), iO 6 (.alloc 25 [zI, zB, zI, zS, zL, zL, zI])] (.seq (.seq (.draw [⟨iM 7 0, none⟩, ⟨iO 8 (.nilck (.t 7)), none⟩, ⟨iF 9 0 8, none⟩, ⟨iL 10 9, none⟩, ⟨iM 11 0, none⟩, ⟨iO 12 (.nilck (.t 11)), none⟩, ⟨iF 13 1 12, none⟩, ⟨iL 14 13, none⟩, ⟨iO 15 (.slS (.t 10) (some (.t 14)) none), none⟩, ⟨iM 16 1, none⟩, ⟨iC 17 24 [(.t 15), (.t 16)], (some [])⟩, ⟨iO 18 (.un .not (.t 17)), none⟩]) (.cond (.t 18) (.reg [iM 19 0, iO 20 (.nilck (.t 19)), iF 21 1 20, iL 22 21, iO 23 (.build [zI, zI] [((0, 1), (.t 22)), ((1, 1), (.c (.int .i64 7)))]), iO 24 (.mkI 50 (.t 23)), ⟨none, none, (.panic (.t 24))⟩]) .skip)) (sr [iM 25 0, iO 26 (.nilck (.t 25)), iF 27 1 26, iL 28 27, iM 29 1, iO 30 (.lenS (.t 29)), iB 31 .add 28 30, iO 32 (.nilck (.t 25)), iF 33 1 32, iS 1 33 31] (sr [iA 34 7 5, iS 7 6 34] .ret)))), res := [(.a 7 6)] }

theorem cf_pword : cfunc Go.Proofs.Tryd.prog 35 = some vf_pword := by kernel_rfl

/-- elements -/
def vf_elements : VFunc :=
  { m := 60, code := (sr [iM 6 0, iO 7 (.nilck (.t 6)), iF 8 2 7, iL 9 8, iK 10 .add 9 .i64 1, iO 11 (.nilck (.t 6)), iF 12 2 11, iS 1 12 10] (sr [iM 13 0, iO 14 (.nilck (.t 13)), iF 15 1 14, iL 16 15, iK 17 .add 16 .i64 1, iO 18 (.nilck (.t 13)), iF 19 1 18, iS 1 19 17] (.seq (sr [iM 20 0, iC 21 33 [(.t 20)], iM 22 1, iB 23 .eql 21 22] (.cond (.t 23) (sr [iM 24 0, iO 25 (.nilck (.t 24)), iF 26 1 25, iL 27 26, iK 28 .add 27 .i64 1, iO 29 (.nilck (.t 24)), iF 30 1 29, iS 1 30 28] (sr [iM 31 0, iO 32 (.nilck (.t 31)), iF 33 2 32, iL 34 33, iK 35 .sub 34 .i64 1, iO 36 (.nilck (.t 31)), iF 37 2 36, iS 1 37 35] .ret)) .skip)) (.seq (.block 0 (.loop (.block 1 (sr [iM 38 2, ⟨(some 39), none, (.callV (.t 38) [])⟩] (.seq (sr [iM 40 0, iC 41 33 [(.t 40)], iM 42 1, iB 43 .eql 41 42] (.cond (.t 43) (.exit 0) .skip)) (.reg [iM 44 0, iC 45 53 [(.t 44), (.c (.int .u8 44))]])))))) (sr [iM 46 0, iO 47 (.nilck (.t 46)), iF 48 1 47, iL 49 48, iK 50 .add 49 .i64 1, iO 51 (.nilck (.t 46)), iF 52 1 51, iS 1 52 50] (.reg [iM 53 0, iO 54 (.nilck (.t 53)), iF 55 2 54, iL 56 55, iK 57 .sub 56 .i64 1, iO 58 (.nilck (.t 53)), iF 59 2 58, iS 1 59 57])))))), res := [] }

theorem cf_elements : cfunc Go.Proofs.Tryd.prog 38 = some vf_elements := by kernel_rfl

/-- pmember -/
def vf_pmember : VFunc :=
  { m := 32, code := (sr [iO 4 (.alloc 45 [zS, zI, zB, zI, zS, zL, zL, zI, zI])] (.seq (sr [iM 6 0, iC 7 33 [(.t 6)], iK 8 .neq 7 .u8 34] (.cond (.t 8) (.reg [iM 9 0, iC 10 42 [(.t 9)]]) .skip)) (sr [iM 11 0, iO 12 (.nilck (.t 11)), iF 13 1 12, iL 14 13, iO 15 (.build [zS, zI, zB, zI, zS, zL, zL, zI, zI] [((8, 1), (.t 14))]), iO 5 (.alloc 45 [zS, zI, zB, zI, zS, zL, zL, zI, zI]), iS 9 5 15] (sr [iM 16 0, iC 17 36 [(.t 16)], iF 18 0 5, iS 1 18 17] (.seq (sr [iM 19 1, iO 20 (.mkF (.func 55) [] [(.t 5)]), iC 21 54 [(.t 19), (.t 20)]] (.cond (.t 21) (.reg [iF 22 8 5, iL 23 22, iO 24 (.build [zI, zI] [((0, 1), (.t 23)), ((1, 1), (.c (.int .i64 10)))]), iO 25 (.mkI 50 (.t 24)), ⟨none, none, (.panic (.t 25))⟩]) .skip)) (sr [iM 26 0, iC 27 53 [(.t 26), (.c (.int .u8 58))]] (sr [iM 28 0, iC 29 25 [(.t 28)], iF 30 1 5, iS 7 30 29] (sr [iA 31 9 5, iS 9 4 31] .ret)))))))), res := [(.a 9 4)] }

theorem cf_pmember : cfunc Go.Proofs.Tryd.prog 41 = some vf_pmember := by kernel_rfl

/-- member1 -/
def vf_member1 : VFunc :=
  { m := 9, code := (sr [iO 2 (.box 45 (.t 0)), iO 3 (.mov (.c zB))] (sr [iF 4 0 2, iL 5 4, iF 6 0 1, iL 7 6, iB 8 .eql 5 7, iM 3 8] .ret)), res := [(.t 3)] }

theorem cf_member1 : cfunc Go.Proofs.Tryd.prog 55 = some vf_member1 := by kernel_rfl

/-- pvalue -/
def vf_pvalue : VFunc :=
  { m := 85, code := (sr [iO 1 (.box 52 (.t 0)), iO 2 (.alloc 25 [zI, zB, zI, zS, zL, zL, zI])] (sr [iL 5 1, iC 6 33 [(.t 5)], iM 3 6] (sr [iL 7 1, iO 8 (.nilck (.t 7)), iF 9 1 8, iL 10 9, iO 11 (.build [zI, zB, zI, zS, zL, zL, zI] [((6, 1), (.t 10))]), iO 4 (.alloc 25 [zI, zB, zI, zS, zL, zL, zI]), iS 7 4 11] (.seq (sr [iL 12 1, iO 13 (.nilck (.t 12)), iF 14 2 13, iL 15 14, iK 16 .geq 15 .i64 100, iM 17 16, iP 18 17 true 3, iH 19 17 true 34 [(.t 18)], iU 20 17 19] (.cond (.t 20) (.reg [iL 21 1, iO 22 (.nilck (.t 21)), iF 23 1 22, iL 24 23, iO 25 (.build [zI, zI] [((0, 1), (.t 24)), ((1, 1), (.c (.int .i64 9)))]), iO 26 (.mkI 50 (.t 25)), ⟨none, none, (.panic (.t 26))⟩]) .skip)) (.seq (.block 0 (sr [iM 30 3, iK 31 .eql 30 .u8 110, iM 29 31] (.cond (.t 29) (sr [iL 32 1, iA 33 7 4, iC 34 35 [(.t 32), (.c (.str [110, 117, 108, 108])), (.t 33)], iS 7 2 34] .ret) (sr [iM 36 3, iK 37 .eql 36 .u8 116, iM 35 37] (.cond (.t 35) (sr [iF 38 0 4, iN (.store 1 (.t 38) (.c (.int .i64 1))), iF 39 1 4, iN (.store 1 (.t 39) (.c (.bool true)))] (sr [iL 40 1, iA 41 7 4, iC 42 35 [(.t 40), (.c (.str [116, 114, 117, 101])), (.t 41)], iS 7 2 42] .ret)) (sr [iM 44 3, iK 45 .eql 44 .u8 102, iM 43 45] (.cond (.t 43) (sr [iF 46 0 4, iN (.store 1 (.t 46) (.c (.int .i64 1)))] (sr [iL 47 1, iA 48 7 4, iC 49 35 [(.t 47), (.c (.str [102, 97, 108, 115, 101])), (.t 48)], iS 7 2 49] .ret)) (sr [iM 51 3, iK 52 .eql 51 .u8 34, iM 50 52] (.cond (.t 50) (.reg [iL 53 1, iC 54 36 [(.t 53)], iF 55 0 4, iN (.store 1 (.t 55) (.c (.int .i64 3))), iF 56 3 4, iS 1 56 54]) (.seq (sr [iM 58 3, iK 59 .eql 58 .u8 45, iM 57 59] (.cond (.t 57) .skip (.reg [iM 60 3, iK 61 .geq 60 .u8 48, iM 62 61, iP 63 62 true 3, iJ 64 62 true .leq 63 .u8 57, iU 65 62 64, iM 57 65]))) (.cond (.t 57) (.reg [iL 66 1, iC 67 37 [(.t 66)], iF 68 0 4, iN (.store 1 (.t 68) (.c (.int .i64 2))), iF 69 2 4, iS 1 69 67]) (sr [iM 71 3, iK 72 .eql 71 .u8 91, iM 70 72] (.cond (.t 70) (sr [iF 73 0 4, iN (.store 1 (.t 73) (.c (.int .i64 4)))] (.reg [iL 74 1, iO 75 (.mkF (.func 39) [] [(.t 4), (.t 1)]), iC 76 38 [(.t 74), (.c (.int .u8 93)), (.t 75)]])) (sr [iM 78 3, iK 79 .eql 78 .u8 123, iM 77 79] (.cond (.t 77) (sr [iF 80 0 4, iN (.store 1 (.t 80) (.c (.int .i64 5)))] (.reg [iL 81 1, iO 82 (.mkF (.func 40) [] [(.t 4), (.t 1)]), iC 83 38 [(.t 81), (.c (.int .u8 125)), (.t 82)]])) (.reg [iL 27 1, iC 28 42 [(.t 27)]])))))))))))))))) (sr [iA 84 7 4, iS 7 2 84] .ret)))))), res := [(.a 7 2)] }

theorem cf_pvalue : cfunc Go.Proofs.Tryd.prog 25 = some vf_pvalue := by kernel_rfl

/-- value1 -/
def vf_value1 : VFunc :=
  { m := 11, code := (.seq (.draw [⟨iF 2 4 0, none⟩, ⟨iL 3 2, none⟩, ⟨iL 4 1, none⟩, ⟨iO 6 (.lenV (.t 3)), none⟩, ⟨iO 7 (.bslc 7 [(.c (.agg [zI, zB, zI, zS, zL, zL, zI]))]), none⟩, ⟨iC 5 25 [(.t 4)], (some [iF 2 4 0, iL 3 2, iO 6 (.lenV (.t 3)), iO 7 (.bslc 7 [(.c (.agg [zI, zB, zI, zS, zL, zL, zI]))])])⟩]) (.tail ⟨25, 7, [zI, zB, zI, zS, zL, zL, zI], (.t 3), (.t 7), (.t 6), (.t 5), (.t 0), 4, 8, 9, 10⟩)), res := [] }

theorem cf_value1 : cfunc Go.Proofs.Tryd.prog 39 = some vf_value1 := by kernel_rfl

/-- value2 -/
def vf_value2 : VFunc :=
  { m := 13, code := (.seq (.draw [⟨iF 2 5 0, none⟩, ⟨iL 3 2, none⟩, ⟨iL 4 1, none⟩, ⟨iF 5 5 0, none⟩, ⟨iL 6 5, none⟩, ⟨iO 8 (.lenV (.t 3)), none⟩, ⟨iO 9 (.bslc 9 [(.c (.agg [zS, zI, zB, zI, zS, zL, zL, zI, zI]))]), none⟩, ⟨iC 7 41 [(.t 4), (.t 6)], (some [iF 2 5 0, iL 3 2, iO 8 (.lenV (.t 3)), iO 9 (.bslc 9 [(.c (.agg [zS, zI, zB, zI, zS, zL, zL, zI, zI]))])])⟩]) (.tail ⟨45, 9, [zS, zI, zB, zI, zS, zL, zL, zI, zI], (.t 3), (.t 9), (.t 8), (.t 7), (.t 0), 5, 10, 11, 12⟩)), res := [] }

theorem cf_value2 : cfunc Go.Proofs.Tryd.prog 40 = some vf_value2 := by kernel_rfl

/-- begins -/
def vf_begins : VFunc :=
  { m := 6, code := (sr [iO 2 (.mov (.c zB))] (sr [iM 3 0, iC 4 48 [(.c (.str [110, 116, 102, 34, 45, 48, 49, 50, 51, 52, 53, 54, 55, 56, 57, 91, 123])), (.t 3)], iK 5 .geq 4 .i64 0, iM 2 5] .ret)), res := [(.t 2)] }

theorem cf_begins : cfunc Go.Proofs.Tryd.prog 34 = some vf_begins := by kernel_rfl

/-- jvParse -/
def vd_jvParse : VDefer :=
  ⟨35, (.reg [iO 2 (.alloc 25 [zI, zB, zI, zS, zL, zL, zI]), iO 3 (.alloc 3 [zI]), iO 4 (.alloc 35 [zI])]), 6, 23, [(.t 2), (.t 3), (.t 4)], (sr [iM 7 0, iO 8 (.build [zS, zI, zI] [((0, 1), (.t 7))]), iO 9 (.box 54 (.t 8)), iM 5 9] (.seq (sr [iM 10 0, iC 11 24 [(.t 10), (.c (.str [239, 187, 191]))]] (.cond (.t 11) (.reg [iM 12 5, iO 13 (.nilck (.t 12)), iF 14 1 13, iN (.store 1 (.t 14) (.c (.int .i64 3)))]) .skip)) (sr [iM 15 5, iC 16 25 [(.t 15)], iS 7 2 16] (.seq (sr [iM 17 5, iC 18 26 [(.t 17)]] (sr [iM 19 5, iO 20 (.nilck (.t 19)), iF 21 1 20, iL 22 21, iM 23 0, iO 24 (.lenS (.t 23)), iB 25 .lss 22 24] (.cond (.t 25) (.reg [iM 26 5, iO 27 (.nilck (.t 26)), iF 28 1 27, iL 29 28, iO 30 (.build [zI, zI] [((0, 1), (.t 29)), ((1, 1), (.c (.int .i64 17)))]), iO 31 (.mkI 50 (.t 30)), ⟨none, none, (.panic (.t 31))⟩]) .skip))) (sr [iA 32 7 2, iM 33 0, iO 34 (.lenS (.t 33)), iS 7 2 32, iS 1 3 34, iN (.store 1 (.t 4) (.c zI))] .ret))))), [(.a 7 2), (.l 3), (.l 4)], 22, 6, 3, (sr [iM 7 3, iO 8 (.eqN .i true (.t 7) (.c .nilI))] (.cond (.t 8) (sr [iM 10 3, iO 11 (.tasOk 50 (.agg [zI, zI]) (.t 10)), iM 9 11, iE 12 9 0, iE 13 9 1, iO 4 (.alloc 50 [zI, zI]), iS 2 4 12, iM 5 13] (.seq (sr [iM 14 5, iO 15 (.un .not (.t 14))] (.cond (.t 15) (.reg [iM 16 3, ⟨none, none, (.panic (.t 16))⟩]) .skip)) (.draw [⟨iO 17 (.build [zI, zB, zI, zS, zL, zL, zI] []), none⟩, ⟨iF 18 0 4, none⟩, ⟨iL 19 18, none⟩, ⟨iF 20 1 4, none⟩, ⟨iL 21 20, none⟩, ⟨iS 7 0 17, (some [iF 18 0 4, iL 19 18, iF 20 1 4, iL 21 20])⟩, ⟨iS 1 1 19, (some [iF 20 1 4, iL 21 20])⟩, ⟨iS 1 2 21, (some [])⟩]))) .skip))⟩

theorem cd_jvParse : cdefer Go.Proofs.Tryd.prog 16 = some vd_jvParse := by kernel_rfl

/-- jvDepth -/
def vf_jvDepth : VFunc :=
  { m := 41, code := (sr [iO 1 (.box 25 (.t 0)), iI 2 .i64 0] (sr [iI 3 .i64 0] (.seq (sr [iF 8 0 1, iL 9 8] (.block 0 (sr [iK 11 .eql 9 .i64 4, iM 10 11] (.cond (.t 10) (sr [iF 12 4 1, iL 13 12, iO 14 (.lenV (.t 13)), iI 15 .i64 0] (.block 1 (.loop (sr [iB 16 .lss 15 14] (.seq (.cond (.t 16) .skip (.exit 1)) (.seq (.block 2 (sr [iO 17 (.iadV 7 (.t 13) (.t 15)), iA 18 7 17, iO 5 (.alloc 25 [zI, zB, zI, zS, zL, zL, zI]), iS 7 5 18] (.reg [iM 19 3, iA 20 7 5, iC 21 12 [(.t 20)], iO 22 (.mx [(.t 19), (.t 21)]), iM 3 22]))) (.reg [iK 23 .add 15 .i64 1, iM 15 23]))))))) (sr [iK 25 .eql 9 .i64 5, iM 24 25] (.cond (.t 24) (sr [iF 26 5 1, iL 27 26, iO 28 (.lenV (.t 27)), iI 29 .i64 0] (.block 3 (.loop (sr [iB 30 .lss 29 28] (.seq (.cond (.t 30) .skip (.exit 3)) (.seq (.block 4 (sr [iO 31 (.iadV 9 (.t 27) (.t 29)), iA 32 9 31, iO 7 (.alloc 45 [zS, zI, zB, zI, zS, zL, zL, zI, zI]), iS 9 7 32] (.reg [iM 33 3, iF 34 1 7, iA 35 7 34, iC 36 12 [(.t 35)], iO 37 (.mx [(.t 33), (.t 36)]), iM 3 37]))) (.reg [iK 38 .add 29 .i64 1, iM 29 38]))))))) .skip)))))) (sr [iM 39 3, iK 40 .add 39 .i64 1, iM 2 40] .ret)))), res := [(.t 2)] }

theorem cf_jvDepth : cfunc Go.Proofs.Tryd.prog 12 = some vf_jvDepth := by kernel_rfl

/-- jvEqual -/
def vf_jvEqual : VFunc :=
  { m := 43, code := (sr [iO 2 (.box 25 (.t 0)), iO 3 (.box 25 (.t 1)), iO 4 (.mov (.c zB))] (.seq (sr [iF 5 0 2, iL 6 5, iF 7 0 3, iL 8 7, iB 9 .neq 6 8, iM 10 9, iG 11 10 false (.fadr 1 (.t 2)), iG 12 10 false (.loadL (.t 11)), iG 13 10 false (.fadr 1 (.t 3)), iG 14 10 false (.loadL (.t 13)), iG 15 10 false (.eqB true (.t 12) (.t 14)), iT 16 10 15, iM 17 16, iG 18 17 false (.fadr 2 (.t 2)), iG 19 17 false (.loadL (.t 18)), iG 20 17 false (.fadr 2 (.t 3)), iG 21 17 false (.loadL (.t 20)), iR 22 17 false .neq 19 21, iT 23 17 22, iM 24 23, iG 25 24 false (.fadr 3 (.t 2)), iG 26 24 false (.loadL (.t 25)), iG 27 24 false (.fadr 3 (.t 3)), iG 28 24 false (.loadL (.t 27)), iR 29 24 false .neq 26 28, iT 30 24 29] (.cond (.t 30) (sr [iO 4 (.mov (.c zB))] .ret) .skip)) (sr [iF 31 4 2, iL 32 31, iF 33 4 3, iL 34 33, iC 35 20 [(.t 32), (.t 34), (.c (.fn (.func 14) [] []))], iM 36 35, iG 37 36 true (.fadr 5 (.t 2)), iG 38 36 true (.loadL (.t 37)), iG 39 36 true (.fadr 5 (.t 3)), iG 40 36 true (.loadL (.t 39)), iH 41 36 true 21 [(.t 38), (.t 40), (.c (.fn (.func 22) [] []))], iU 42 36 41, iM 4 42] .ret))), res := [(.t 4)] }

theorem cf_jvEqual : cfunc Go.Proofs.Tryd.prog 14 = some vf_jvEqual := by kernel_rfl

/-- jvEqual1 -/
def vf_jvEqual1 : VFunc :=
  { m := 17, code := (sr [iO 2 (.box 45 (.t 0)), iO 3 (.box 45 (.t 1)), iO 4 (.mov (.c zB))] (sr [iF 5 0 2, iL 6 5, iF 7 0 3, iL 8 7, iB 9 .eql 6 8, iM 10 9, iG 11 10 true (.fadr 1 (.t 2)), iG 12 10 true (.loadA 7 (.t 11)), iG 13 10 true (.fadr 1 (.t 3)), iG 14 10 true (.loadA 7 (.t 13)), iH 15 10 true 14 [(.t 12), (.t 14)], iU 16 10 15, iM 4 16] .ret)), res := [(.t 4)] }

theorem cf_jvEqual1 : cfunc Go.Proofs.Tryd.prog 22 = some vf_jvEqual1 := by kernel_rfl

/-- jvStrip -/
def vf_jvStrip : VFunc :=
  { m := 52, code := (sr [iO 1 (.box 25 (.t 0)), iO 2 (.alloc 25 [zI, zB, zI, zS, zL, zL, zI])] (sr [iF 8 0 1, iL 9 8, iF 10 1 1, iL 11 10, iF 12 2 1, iL 13 12, iF 14 3 1, iL 15 14, iO 16 (.build [zI, zB, zI, zS, zL, zL, zI] [((0, 1), (.t 9)), ((1, 1), (.t 11)), ((2, 1), (.t 13)), ((3, 1), (.t 15))]), iO 3 (.alloc 25 [zI, zB, zI, zS, zL, zL, zI]), iS 7 3 16] (.seq (sr [iF 17 4 1, iL 18 17, iO 19 (.lenV (.t 18)), iI 20 .i64 0] (.block 0 (.loop (sr [iB 21 .lss 20 19] (.seq (.cond (.t 21) .skip (.exit 0)) (.seq (.block 1 (sr [iO 22 (.iadV 7 (.t 18) (.t 20)), iA 23 7 22, iO 5 (.alloc 25 [zI, zB, zI, zS, zL, zL, zI]), iS 7 5 23] (.draw [⟨iF 24 4 3, none⟩, ⟨iL 25 24, none⟩, ⟨iA 26 7 5, none⟩, ⟨iC 27 10 [(.t 26)], (some [iF 24 4 3, iL 25 24])⟩, ⟨iO 28 (.bslc 7 [(.t 27)]), none⟩, ⟨iO 29 (.app 25 7 [zI, zB, zI, zS, zL, zL, zI] (.t 25) (.t 28)), (some [])⟩, ⟨iF 30 4 3, none⟩, ⟨iS 1 30 29, (some [])⟩]))) (.reg [iK 31 .add 20 .i64 1, iM 20 31]))))))) (.seq (sr [iF 32 5 1, iL 33 32, iO 34 (.lenV (.t 33)), iI 35 .i64 0] (.block 2 (.loop (sr [iB 36 .lss 35 34] (.seq (.cond (.t 36) .skip (.exit 2)) (.seq (.block 3 (sr [iO 37 (.iadV 9 (.t 33) (.t 35)), iA 38 9 37, iO 7 (.alloc 45 [zS, zI, zB, zI, zS, zL, zL, zI, zI]), iS 9 7 38] (.draw [⟨iF 39 5 3, none⟩, ⟨iL 40 39, none⟩, ⟨iF 41 0 7, none⟩, ⟨iL 42 41, none⟩, ⟨iF 43 1 7, none⟩, ⟨iA 44 7 43, none⟩, ⟨iC 45 10 [(.t 44)], (some [iF 39 5 3, iL 40 39, iF 41 0 7, iL 42 41])⟩, ⟨iO 46 (.build [zS, zI, zB, zI, zS, zL, zL, zI, zI] [((0, 1), (.t 42)), ((1, 7), (.t 45))]), none⟩, ⟨iO 47 (.bslc 9 [(.t 46)]), none⟩, ⟨iO 48 (.app 45 9 [zS, zI, zB, zI, zS, zL, zL, zI, zI] (.t 40) (.t 47)), (some [])⟩, ⟨iF 49 5 3, none⟩, ⟨iS 1 49 48, (some [])⟩]))) (.reg [iK 50 .add 35 .i64 1, iM 35 50]))))))) (sr [iA 51 7 3, iS 7 2 51] .ret))))), res := [(.a 7 2)] }

theorem cf_jvStrip : cfunc Go.Proofs.Tryd.prog 10 = some vf_jvStrip := by kernel_rfl

/-- eqFV -/
def vf_eqFV : VFunc :=
  { m := 32, code := (sr [iO 6 (.mov (.c zB))] (.seq (sr [iM 10 0, iO 11 (.lenV (.t 10)), iM 12 1, iO 13 (.lenV (.t 12)), iB 14 .neq 11 13] (.cond (.t 14) (sr [iO 6 (.mov (.c zB))] .ret) .skip)) (.seq (sr [iM 15 0, iO 16 (.lenV (.t 15)), iI 17 .i64 0] (.block 0 (.loop (sr [iB 18 .lss 17 16] (.seq (.cond (.t 18) .skip (.exit 0)) (.seq (.block 1 (sr [iM 19 17, iO 20 (.iadV 7 (.t 15) (.t 17)), iA 21 7 20, iO 8 (.alloc 25 [zI, zB, zI, zS, zL, zL, zI]), iM 7 19, iS 7 8 21] (sr [iM 22 1, iM 23 7, iO 24 (.iadV 7 (.t 22) (.t 23)), iA 25 7 24, iO 9 (.alloc 25 [zI, zB, zI, zS, zL, zL, zI]), iS 7 9 25] (sr [iM 26 2, iA 27 7 8, iA 28 7 9, ⟨(some 29), none, (.callV (.t 26) [(.t 27), (.t 28)])⟩, iO 30 (.un .not (.t 29))] (.cond (.t 30) (sr [iO 6 (.mov (.c zB))] .ret) .skip))))) (.reg [iK 31 .add 17 .i64 1, iM 17 31]))))))) (sr [iO 6 (.mov (.c (.bool true)))] .ret)))), res := [(.t 6)] }

theorem cf_eqFV : cfunc Go.Proofs.Tryd.prog 20 = some vf_eqFV := by kernel_rfl

/-- eqFM -/
def vf_eqFM : VFunc :=
  { m := 32, code := (sr [iO 6 (.mov (.c zB))] (.seq (sr [iM 10 0, iO 11 (.lenV (.t 10)), iM 12 1, iO 13 (.lenV (.t 12)), iB 14 .neq 11 13] (.cond (.t 14) (sr [iO 6 (.mov (.c zB))] .ret) .skip)) (.seq (sr [iM 15 0, iO 16 (.lenV (.t 15)), iI 17 .i64 0] (.block 0 (.loop (sr [iB 18 .lss 17 16] (.seq (.cond (.t 18) .skip (.exit 0)) (.seq (.block 1 (sr [iM 19 17, iO 20 (.iadV 9 (.t 15) (.t 17)), iA 21 9 20, iO 8 (.alloc 45 [zS, zI, zB, zI, zS, zL, zL, zI, zI]), iM 7 19, iS 9 8 21] (sr [iM 22 1, iM 23 7, iO 24 (.iadV 9 (.t 22) (.t 23)), iA 25 9 24, iO 9 (.alloc 45 [zS, zI, zB, zI, zS, zL, zL, zI, zI]), iS 9 9 25] (sr [iM 26 2, iA 27 9 8, iA 28 9 9, ⟨(some 29), none, (.callV (.t 26) [(.t 27), (.t 28)])⟩, iO 30 (.un .not (.t 29))] (.cond (.t 30) (sr [iO 6 (.mov (.c zB))] .ret) .skip))))) (.reg [iK 31 .add 17 .i64 1, iM 17 31]))))))) (sr [iO 6 (.mov (.c (.bool true)))] .ret)))), res := [(.t 6)] }

theorem cf_eqFM : cfunc Go.Proofs.Tryd.prog 21 = some vf_eqFM := by kernel_rfl

/-- contF -/
def vf_contF : VFunc :=
  { m := 9, code := (sr [iO 4 (.mov (.c zB))] (sr [iM 5 0, iM 6 1, iC 7 69 [(.t 5), (.t 6)], iK 8 .geq 7 .i64 0, iM 4 8] .ret)), res := [(.t 4)] }

theorem cf_contF : cfunc Go.Proofs.Tryd.prog 54 = some vf_contF := by kernel_rfl

/-- idxF -/
def vf_idxF : VFunc :=
  { m := 19, code := (sr [iI 4 .i64 0] (.seq (sr [iM 6 0, iO 7 (.lenV (.t 6)), iI 8 .i64 0] (.block 0 (.loop (sr [iB 9 .lss 8 7] (.seq (.cond (.t 9) .skip (.exit 0)) (.seq (.block 1 (sr [iM 10 8, iM 5 10] (sr [iM 11 1, iM 12 0, iM 13 5, iO 14 (.iadV 9 (.t 12) (.t 13)), iA 15 9 14, ⟨(some 16), none, (.callV (.t 11) [(.t 15)])⟩] (.cond (.t 16) (sr [iM 17 5, iM 4 17] .ret) .skip)))) (.reg [iK 18 .add 8 .i64 1, iM 8 18]))))))) (sr [iI 4 .i64 (-1)] .ret))), res := [(.t 4)] }

theorem cf_idxF : cfunc Go.Proofs.Tryd.prog 69 = some vf_idxF := by kernel_rfl

/-- jsParse -/
def vf_jsParse : VFunc :=
  { m := 77, code := (sr [iO 4 (.mov (.c zS)), iI 5 .i64 0, iI 6 .i64 0] (.seq (sr [iM 11 1, iK 12 .lss 11 .i64 0, iM 13 12, iP 14 13 false 1, iP 15 13 false 0, iG 16 13 false (.lenS (.t 15)), iR 17 13 false .geq 14 16, iT 18 13 17, iM 19 18, iP 20 19 false 0, iP 21 19 false 1, iG 22 19 false (.idxS (.t 20) (.t 21)), iJ 23 19 false .neq 22 .u8 34, iT 24 19 23] (.cond (.t 24) (sr [iM 25 1, iO 4 (.mov (.c zS)), iM 5 25, iI 6 .i64 7] .ret) .skip)) (sr [iO 7 (.alloc 63 [(.ref none), zL])] (sr [iM 26 1, iK 27 .add 26 .i64 1, iM 8 27] (.seq .skip (.seq (.block 0 (.loop (.seq (sr [iM 28 8, iM 29 0, iO 30 (.lenS (.t 29)), iB 31 .lss 28 30] (.cond (.t 31) .skip (.exit 0))) (.block 1 (sr [iM 33 0, iM 34 8, iC 35 59 [(.t 33), (.t 34)], iM 32 35, iE 36 32 0, iE 37 32 1, iM 9 36, iM 10 37] (.seq (.block 2 (sr [iM 49 10, iK 50 .eql 49 .i64 0, iM 48 50] (.cond (.t 48) (sr [iM 51 8, iO 4 (.mov (.c zS)), iM 5 51, iI 6 .i64 5] .ret) (sr [iM 53 9, iK 54 .lss 53 .i32 32, iM 52 54] (.cond (.t 52) (sr [iM 55 8, iO 4 (.mov (.c zS)), iM 5 55, iI 6 .i64 6] .ret) (sr [iM 57 9, iK 58 .eql 57 .i32 34, iM 56 58] (.cond (.t 56) (sr [iC 59 31 [(.t 7)], iM 60 8, iK 61 .add 60 .i64 1, iM 4 59, iM 5 61, iI 6 .i64 0] .ret) (sr [iM 63 9, iK 64 .neq 63 .i32 92, iM 62 64] (.cond (.t 62) .skip (sr [iM 66 8, iK 67 .add 66 .i64 1, iM 68 0, iO 69 (.lenS (.t 68)), iB 70 .eql 67 69, iM 65 70] (.cond (.t 65) (.exit 0) (sr [iM 39 0, iM 40 8, iO 41 (.slS (.t 39) (some (.t 40)) none), iC 42 60 [(.t 41)], iM 38 42, iE 43 38 0, iE 44 38 1, iM 9 43, iM 10 44] (sr [iM 45 10, iK 46 .eql 45 .i64 0] (.cond (.t 46) (sr [iM 47 8, iO 4 (.mov (.c zS)), iM 5 47, iI 6 .i64 16] .ret) .skip)))))))))))))) (sr [iM 71 9, iC 72 61 [(.t 7), (.t 71)]] (.reg [iM 73 8, iM 74 10, iB 75 .add 73 74, iM 8 75])))))))) (sr [iM 76 1, iO 4 (.mov (.c zS)), iM 5 76, iI 6 .i64 8] .ret))))))), res := [(.t 4), (.t 5), (.t 6)] }

theorem cf_jsParse : cfunc Go.Proofs.Tryd.prog 49 = some vf_jsParse := by kernel_rfl

/-- jsSequence -/
def vf_jsSequence : VFunc :=
  { m := 81, code := (sr [iI 2 .i32 0, iI 3 .i64 0] (sr [iM 10 0, iO 11 (.idxS (.t 10) (.c (.int .i64 1))), iM 4 11] (.seq (sr [iM 12 4, iK 13 .eql 12 .u8 34, iM 14 13, iP 15 14 false 4, iJ 16 14 false .eql 15 .u8 92, iT 17 14 16, iM 18 17, iP 19 18 false 4, iJ 20 18 false .eql 19 .u8 47, iT 21 18 20] (.cond (.t 21) (sr [iM 22 4, iO 23 (.cvI .i32 (.t 22)), iM 2 23, iI 3 .i64 2] .ret) .skip)) (.seq (sr [iO 24 (.loadA 10 (.c (.gref 1 0))), iI 25 .i64 0] (.block 0 (.loop (sr [iK 26 .lss 25 .i64 5] (.seq (.cond (.t 26) .skip (.exit 0)) (.seq (.block 1 (sr [iO 27 (.idxA 5 2 (.t 24) (.t 25)), iO 6 (.alloc 108 [(.int .u8 0), (.int .u8 0)]), iS 2 6 27] (sr [iO 28 (.iadA 2 1 (.t 6) (.c zI)), iL 29 28, iM 30 4, iB 31 .eql 29 30] (.cond (.t 31) (sr [iO 32 (.iadA 2 1 (.t 6) (.c (.int .i64 1))), iL 33 32, iO 34 (.cvI .i32 (.t 33)), iM 2 34, iI 3 .i64 2] .ret) .skip)))) (.reg [iK 35 .add 25 .i64 1, iM 25 35]))))))) (sr [iM 37 0, iC 38 72 [(.t 37)], iM 36 38, iE 39 36 0, iE 40 36 1, iM 7 39, iM 8 40] (.seq (.block 2 (.seq (sr [iM 42 8, iO 43 (.un .not (.t 42)), iM 41 43] (.cond (.t 41) .skip (.reg [iM 44 7, iK 45 .geq 44 .i32 56320, iM 46 45, iP 47 46 true 7, iJ 48 46 true .leq 47 .i32 57343, iU 49 46 48, iM 41 49]))) (.cond (.t 41) (sr [iI 2 .i32 0, iI 3 .i64 0] .ret) (sr [iM 51 7, iK 52 .lss 51 .i32 55296, iM 53 52, iP 54 53 false 7, iJ 55 53 false .gtr 54 .i32 57343, iT 56 53 55, iM 50 56] (.cond (.t 50) (sr [iM 57 7, iM 2 57, iI 3 .i64 6] .ret) .skip))))) (sr [iM 59 0, iO 60 (.slS (.t 59) (some (.c (.int .i64 6))) none), iC 61 72 [(.t 60)], iM 58 61, iE 62 58 0, iE 63 58 1, iM 9 62, iM 8 63] (.seq (sr [iM 64 8, iO 65 (.un .not (.t 64)), iM 66 65, iP 67 66 false 9, iJ 68 66 false .lss 67 .i32 56320, iT 69 66 68, iM 70 69, iP 71 70 false 9, iJ 72 70 false .gtr 71 .i32 57343, iT 73 70 72] (.cond (.t 73) (sr [iI 2 .i32 0, iI 3 .i64 0] .ret) .skip)) (sr [iM 74 7, iK 75 .sub 74 .i32 55296, iK 76 .shl 75 .u64 10, iM 77 9, iK 78 .sub 77 .i32 56320, iB 79 .add 76 78, iK 80 .add 79 .i32 65536, iM 2 80, iI 3 .i64 12] .ret))))))))), res := [(.t 2), (.t 3)] }

theorem cf_jsSequence : cfunc Go.Proofs.Tryd.prog 60 = some vf_jsSequence := by kernel_rfl

/-- jsUnit -/
def vf_jsUnit : VFunc :=
  { m := 43, code := (sr [iI 2 .i32 0, iO 3 (.mov (.c zB))] (.seq (sr [iM 8 0, iO 9 (.lenS (.t 8)), iK 10 .lss 9 .i64 6, iM 11 10, iP 12 11 false 0, iG 13 11 false (.slS (.t 12) none (some (.c (.int .i64 2)))), iG 14 11 false (.bin .neq (.t 13) (.c (.str [92, 117]))), iT 15 11 14] (.cond (.t 15) (sr [iI 2 .i32 0, iO 3 (.mov (.c zB))] .ret) .skip)) (sr [iI 4 .i32 0] (.seq (sr [iM 16 0, iO 17 (.slS (.t 16) (some (.c (.int .i64 2))) (some (.c (.int .i64 6)))), iO 18 (.cvSB (.t 17)), iO 19 (.lenV (.t 18)), iI 20 .i64 0] (.block 0 (.loop (sr [iB 21 .lss 20 19] (.seq (.cond (.t 21) .skip (.exit 0)) (.seq (.block 1 (sr [iO 22 (.iadV 1 (.t 18) (.t 20)), iL 23 22, iM 6 23] (.seq (sr [iM 24 6, iK 25 .geq 24 .u8 65, iM 26 25, iP 27 26 true 6, iJ 28 26 true .leq 27 .u8 70, iU 29 26 28] (.cond (.t 29) (.reg [iM 30 6, iK 31 .add 30 .u8 32, iM 6 31]) .skip)) (sr [iM 32 6, iC 33 48 [(.c (.str [48, 49, 50, 51, 52, 53, 54, 55, 56, 57, 97, 98, 99, 100, 101, 102])), (.t 32)], iM 7 33] (.seq (sr [iM 34 7, iK 35 .lss 34 .i64 0] (.cond (.t 35) (sr [iI 2 .i32 0, iO 3 (.mov (.c zB))] .ret) .skip)) (.reg [iM 36 4, iK 37 .shl 36 .u64 4, iM 38 7, iO 39 (.cvI .i32 (.t 38)), iB 40 .or 37 39, iM 4 40])))))) (.reg [iK 41 .add 20 .i64 1, iM 20 41]))))))) (sr [iM 42 4, iM 2 42, iO 3 (.mov (.c (.bool true)))] .ret))))), res := [(.t 2), (.t 3)] }

theorem cf_jsUnit : cfunc Go.Proofs.Tryd.prog 72 = some vf_jsUnit := by kernel_rfl

/-- hasPrefix -/
def vf_hasPrefix : VFunc :=
  { m := 8, code := (sr [iO 4 (.mov (.c zB))] (sr [iM 5 0, iM 6 1, iC 7 32 [(.t 5), (.t 6)], iM 4 7] .ret)), res := [(.t 4)] }

theorem cf_hasPrefix : cfunc Go.Proofs.Tryd.prog 24 = some vf_hasPrefix := by kernel_rfl

/-- slHasPrefix -/
def vf_slHasPrefix : VFunc :=
  { m := 18, code := (sr [iO 4 (.mov (.c zB))] (sr [iM 5 0, iO 6 (.lenS (.t 5)), iM 7 1, iO 8 (.lenS (.t 7)), iB 9 .geq 6 8, iM 10 9, iP 11 10 true 0, iP 12 10 true 1, iG 13 10 true (.lenS (.t 12)), iG 14 10 true (.slS (.t 11) none (some (.t 13))), iP 15 10 true 1, iR 16 10 true .eql 14 15, iU 17 10 16, iM 4 17] .ret)), res := [(.t 4)] }

theorem cf_slHasPrefix : cfunc Go.Proofs.Tryd.prog 32 = some vf_slHasPrefix := by kernel_rfl

/-- trimPrefix -/
def vf_trimPrefix : VFunc :=
  { m := 8, code := (sr [iO 4 (.mov (.c zS))] (sr [iM 5 0, iM 6 1, iC 7 66 [(.t 5), (.t 6)], iM 4 7] .ret)), res := [(.t 4)] }

theorem cf_trimPrefix : cfunc Go.Proofs.Tryd.prog 51 = some vf_trimPrefix := by kernel_rfl

/-- slTrimPrefix -/
def vf_slTrimPrefix : VFunc :=
  { m := 13, code := (sr [iO 4 (.mov (.c zS))] (.seq (sr [iM 5 0, iM 6 1, iC 7 32 [(.t 5), (.t 6)]] (.cond (.t 7) (sr [iM 8 0, iM 9 1, iO 10 (.lenS (.t 9)), iO 11 (.slS (.t 8) (some (.t 10)) none), iM 4 11] .ret) .skip)) (sr [iM 12 0, iM 4 12] .ret))), res := [(.t 4)] }

theorem cf_slTrimPrefix : cfunc Go.Proofs.Tryd.prog 66 = some vf_slTrimPrefix := by kernel_rfl

/-- trimLeft -/
def vf_trimLeft : VFunc :=
  { m := 37, code := (sr [iO 4 (.mov (.c zS))] (.seq (sr [iM 7 0, iO 8 (.bin .eql (.t 7) (.c zS)), iM 9 8, iP 10 9 false 1, iG 11 9 false (.bin .eql (.t 10) (.c zS)), iT 12 9 11] (.cond (.t 12) (sr [iM 13 0, iM 4 13] .ret) .skip)) (.seq (sr [iM 14 1, iO 15 (.lenS (.t 14)), iK 16 .eql 15 .i64 1, iM 17 16, iP 18 17 true 1, iG 19 17 true (.idxS (.t 18) (.c zI)), iJ 20 17 true .lss 19 .u8 128, iU 21 17 20] (.cond (.t 21) (sr [iM 22 0, iM 23 1, iO 24 (.idxS (.t 23) (.c zI)), iC 25 62 [(.t 22), (.t 24)], iM 4 25] .ret) .skip)) (.seq (sr [iM 27 1, iC 28 63 [(.t 27)], iM 26 28, iE 29 26 0, iE 30 26 1, iO 5 (.alloc 101 [zB, zB, zB, zB, zB, zB, zB, zB, zB, zB, zB, zB, zB, zB, zB, zB, zB, zB, zB, zB, zB, zB, zB, zB, zB, zB, zB, zB, zB, zB, zB, zB, zB, zB, zB, zB, zB, zB, zB, zB, zB, zB, zB, zB, zB, zB, zB, zB, zB, zB, zB, zB, zB, zB, zB, zB, zB, zB, zB, zB, zB, zB, zB, zB, zB, zB, zB, zB, zB, zB, zB, zB, zB, zB, zB, zB, zB, zB, zB, zB, zB, zB, zB, zB, zB, zB, zB, zB, zB, zB, zB, zB, zB, zB, zB, zB, zB, zB, zB, zB, zB, zB, zB, zB, zB, zB, zB, zB, zB, zB, zB, zB, zB, zB, zB, zB, zB, zB, zB, zB, zB, zB, zB, zB, zB, zB, zB, zB, zB, zB, zB, zB, zB, zB, zB, zB, zB, zB, zB, zB, zB, zB, zB, zB, zB, zB, zB, zB, zB, zB, zB, zB, zB, zB, zB, zB, zB, zB, zB, zB, zB, zB, zB, zB, zB, zB, zB, zB, zB, zB, zB, zB, zB, zB, zB, zB, zB, zB, zB, zB, zB, zB, zB, zB, zB, zB, zB, zB, zB, zB, zB, zB, zB, zB, zB, zB, zB, zB, zB, zB, zB, zB, zB, zB, zB, zB, zB, zB, zB, zB, zB, zB, zB, zB, zB, zB, zB, zB, zB, zB, zB, zB, zB, zB, zB, zB, zB, zB, zB, zB, zB, zB, zB, zB, zB, zB, zB, zB, zB, zB, zB, zB, zB, zB, zB, zB, zB, zB, zB, zB, zB, zB, zB, zB, zB, zB]), iS 256 5 29, iM 6 30] (sr [iM 31 6] (.cond (.t 31) (sr [iM 32 0, iC 33 64 [(.t 32), (.t 5)], iM 4 33] .ret) .skip))) (sr [iM 34 0, iM 35 1, iC 36 65 [(.t 34), (.t 35)], iM 4 36] .ret))))), res := [(.t 4)] }

theorem cf_trimLeft : cfunc Go.Proofs.Tryd.prog 50 = some vf_trimLeft := by kernel_rfl

/-- indexByte -/
def vf_indexByte : VFunc :=
  { m := 8, code := (sr [iI 4 .i64 0] (sr [iM 5 0, iM 6 1, iC 7 58 [(.t 5), (.t 6)], iM 4 7] .ret)), res := [(.t 4)] }

theorem cf_indexByte : cfunc Go.Proofs.Tryd.prog 48 = some vf_indexByte := by kernel_rfl

/-- slIndexByte -/
def vf_slIndexByte : VFunc :=
  { m := 8, code := (sr [iI 4 .i64 0] (sr [iM 5 0, iM 6 1, iO 7 (.ixB (.t 5) (.t 6)), iM 4 7] .ret)), res := [(.t 4)] }

theorem cf_slIndexByte : cfunc Go.Proofs.Tryd.prog 58 = some vf_slIndexByte := by kernel_rfl

/-- parseInt -/
def vf_parseInt : VFunc :=
  { m := 25, code := (sr [iI 6 .i64 0, iO 7 (.mov (.c .nilI))] (sr [iM 10 0, iM 11 1, iM 12 2, iC 13 67 [(.t 10), (.t 11), (.t 12)], iM 9 13, iE 14 9 0, iE 15 9 1, iM 8 14, iM 7 15] (.seq (sr [iM 16 7, iO 17 (.eqN .i true (.t 16) (.c .nilI))] (.cond (.t 17) (sr [iM 18 8, iM 19 0, iM 20 1, iM 21 2, iM 22 7, iC 23 68 [(.c (.str [80, 97, 114, 115, 101, 73, 110, 116])), (.t 19), (.t 20), (.t 21), (.t 22)], iM 6 18, iM 7 23] .ret) .skip)) (sr [iM 24 8, iM 6 24, iO 7 (.mov (.c .nilI))] .ret)))), res := [(.t 6), (.t 7)] }

theorem cf_parseInt : cfunc Go.Proofs.Tryd.prog 52 = some vf_parseInt := by kernel_rfl

/-- decodeRune -/
def vf_decodeRune : VFunc :=
  { m := 19, code := (sr [iI 2 .i32 0, iI 3 .i64 0] (.seq (sr [iM 4 0, iO 5 (.bin .neq (.t 4) (.c zS)), iM 6 5, iP 7 6 true 0, iG 8 6 true (.idxS (.t 7) (.c zI)), iJ 9 6 true .lss 8 .u8 128, iU 10 6 9] (.cond (.t 10) (sr [iM 11 0, iO 12 (.idxS (.t 11) (.c zI)), iO 13 (.cvI .i32 (.t 12)), iM 2 13, iI 3 .i64 1] .ret) (.reg [iM 15 0, iC 16 81 [(.t 15)], iM 14 16, iE 17 14 0, iE 18 14 1, iM 2 17, iM 3 18]))) .ret)), res := [(.t 2), (.t 3)] }

theorem cf_decodeRune : cfunc Go.Proofs.Tryd.prog 71 = some vf_decodeRune := by kernel_rfl

/-- decodeRuneSlow -/
def vf_decodeRuneSlow : VFunc :=
  { m := 117, code := (sr [iI 2 .i32 0, iI 3 .i64 0] (sr [iM 13 0, iO 14 (.lenS (.t 13)), iM 4 14] (.seq (sr [iM 15 4, iK 16 .lss 15 .i64 1] (.cond (.t 16) (sr [iI 2 .i32 65533, iI 3 .i64 0] .ret) .skip)) (sr [iM 17 0, iO 18 (.idxS (.t 17) (.c zI)), iM 5 18] (sr [iM 19 5, iO 20 (.iadA 256 1 (.c (.gref 4 0)) (.t 19)), iL 21 20, iM 6 21] (.seq (sr [iM 22 6, iK 23 .geq 22 .u8 240] (.cond (.t 23) (sr [iM 24 6, iO 25 (.cvI .i32 (.t 24)), iK 26 .shl 25 .u64 31, iK 27 .shr 26 .u64 31, iM 7 27] (sr [iM 28 0, iO 29 (.idxS (.t 28) (.c zI)), iO 30 (.cvI .i32 (.t 29)), iM 31 7, iB 32 .andNot 30 31, iM 33 7, iO 34 (.bin .and (.c (.int .i32 65533)) (.t 33)), iB 35 .or 32 34, iM 2 35, iI 3 .i64 1] .ret)) .skip)) (sr [iM 36 6, iK 37 .and 36 .u8 7, iO 38 (.cvI .i64 (.t 37)), iM 8 38] (sr [iM 39 6, iK 40 .shr 39 .u64 4, iO 41 (.iadA 16 2 (.c (.gref 5 0)) (.t 40)), iA 42 2 41, iO 9 (.alloc 130 [(.int .u8 0), (.int .u8 0)]), iS 2 9 42] (.seq (sr [iM 43 4, iM 44 8, iB 45 .lss 43 44] (.cond (.t 45) (sr [iI 2 .i32 65533, iI 3 .i64 1] .ret) .skip)) (sr [iM 46 0, iO 47 (.idxS (.t 46) (.c (.int .i64 1))), iM 10 47] (.seq (sr [iM 48 10, iF 49 0 9, iL 50 49, iB 51 .lss 48 50, iM 52 51, iG 53 52 false (.fadr 1 (.t 9)), iG 54 52 false (.loadL (.t 53)), iP 55 52 false 10, iR 56 52 false .lss 54 55, iT 57 52 56] (.cond (.t 57) (sr [iI 2 .i32 65533, iI 3 .i64 1] .ret) .skip)) (.seq (sr [iM 58 8, iK 59 .leq 58 .i64 2] (.cond (.t 59) (sr [iM 60 5, iK 61 .and 60 .u8 31, iO 62 (.cvI .i32 (.t 61)), iK 63 .shl 62 .u64 6, iM 64 10, iK 65 .and 64 .u8 63, iO 66 (.cvI .i32 (.t 65)), iB 67 .or 63 66, iM 2 67, iI 3 .i64 2] .ret) .skip)) (sr [iM 68 0, iO 69 (.idxS (.t 68) (.c (.int .i64 2))), iM 11 69] (.seq (sr [iM 70 11, iK 71 .lss 70 .u8 128, iM 72 71, iP 73 72 false 11, iG 74 72 false (.bin .lss (.c (.int .u8 191)) (.t 73)), iT 75 72 74] (.cond (.t 75) (sr [iI 2 .i32 65533, iI 3 .i64 1] .ret) .skip)) (.seq (sr [iM 76 8, iK 77 .leq 76 .i64 3] (.cond (.t 77) (sr [iM 78 5, iK 79 .and 78 .u8 15, iO 80 (.cvI .i32 (.t 79)), iK 81 .shl 80 .u64 12, iM 82 10, iK 83 .and 82 .u8 63, iO 84 (.cvI .i32 (.t 83)), iK 85 .shl 84 .u64 6, iB 86 .or 81 85, iM 87 11, iK 88 .and 87 .u8 63, iO 89 (.cvI .i32 (.t 88)), iB 90 .or 86 89, iM 2 90, iI 3 .i64 3] .ret) .skip)) (sr [iM 91 0, iO 92 (.idxS (.t 91) (.c (.int .i64 3))), iM 12 92] (.seq (sr [iM 93 12, iK 94 .lss 93 .u8 128, iM 95 94, iP 96 95 false 12, iG 97 95 false (.bin .lss (.c (.int .u8 191)) (.t 96)), iT 98 95 97] (.cond (.t 98) (sr [iI 2 .i32 65533, iI 3 .i64 1] .ret) .skip)) (sr [iM 99 5, iK 100 .and 99 .u8 7, iO 101 (.cvI .i32 (.t 100)), iK 102 .shl 101 .u64 18, iM 103 10, iK 104 .and 103 .u8 63, iO 105 (.cvI .i32 (.t 104)), iK 106 .shl 105 .u64 12, iB 107 .or 102 106, iM 108 11, iK 109 .and 108 .u8 63, iO 110 (.cvI .i32 (.t 109)), iK 111 .shl 110 .u64 6, iB 112 .or 107 111, iM 113 12, iK 114 .and 113 .u8 63, iO 115 (.cvI .i32 (.t 114)), iB 116 .or 112 115, iM 2 116, iI 3 .i64 4] .ret)))))))))))))))))), res := [(.t 2), (.t 3)] }

theorem cf_decodeRuneSlow : cfunc Go.Proofs.Tryd.prog 81 = some vf_decodeRuneSlow := by kernel_rfl

/-- bWriteRune -/
def vf_bWriteRune : VFunc :=
  { m := 30, code := (sr [iI 4 .i64 0, iO 5 (.mov (.c .nilI))] (sr [iM 7 0, iC 8 46 [(.t 7)]] (sr [iM 9 0, iO 10 (.nilck (.t 9)), iF 11 1 10, iL 12 11, iO 13 (.lenV (.t 12)), iM 6 13] (sr [iM 14 0, iM 15 0, iO 16 (.nilck (.t 15)), iF 17 1 16, iL 18 17, iM 19 1, iC 20 73 [(.t 18), (.t 19)], iO 21 (.nilck (.t 14)), iF 22 1 21, iS 1 22 20] (sr [iM 23 0, iO 24 (.nilck (.t 23)), iF 25 1 24, iL 26 25, iO 27 (.lenV (.t 26)), iM 28 6, iB 29 .sub 27 28, iM 4 29, iO 5 (.mov (.c .nilI))] .ret))))), res := [(.t 4), (.t 5)] }

theorem cf_bWriteRune : cfunc Go.Proofs.Tryd.prog 61 = some vf_bWriteRune := by kernel_rfl

/-- bString -/
def vf_bString : VFunc :=
  { m := 14, code := (sr [iO 2 (.mov (.c zS))] (.seq (.draw [⟨iM 3 0, none⟩, ⟨iO 4 (.nilck (.t 3)), none⟩, ⟨iF 5 1 4, none⟩, ⟨iL 6 5, none⟩, ⟨iO 7 (.usd (.t 6)), none⟩, ⟨iM 8 0, none⟩, ⟨iO 9 (.nilck (.t 8)), none⟩, ⟨iF 10 1 9, none⟩, ⟨iL 11 10, none⟩, ⟨iO 12 (.lenV (.t 11)), none⟩, ⟨iO 13 (.ustr 5 (.t 7) (.t 12)), none⟩, ⟨iM 2 13, none⟩]) .ret)), res := [(.t 2)] }

theorem cf_bString : cfunc Go.Proofs.Tryd.prog 31 = some vf_bString := by kernel_rfl

/-- bCopyCheck -/
def vf_bCopyCheck : VFunc :=
  { m := 20, code := (sr [iM 2 0, iO 3 (.nilck (.t 2)), iF 4 0 3, iL 5 4, iO 6 (.eqN .p false (.t 5) (.c (.ref none)))] (.cond (.t 6) (.reg [iM 7 0, iM 8 0, iO 9 (.cvUP (.t 8)), iM 10 9, iO 11 (.cvPU 63 2 (.t 10)), iO 12 (.nilck (.t 7)), iF 13 0 12, iS 1 13 11]) (sr [iM 14 0, iO 15 (.nilck (.t 14)), iF 16 0 15, iL 17 16, iM 18 0, iO 19 (.eqP true (.t 17) (.t 18))] (.cond (.t 19) .stop .skip)))), res := [] }

theorem cf_bCopyCheck : cfunc Go.Proofs.Tryd.prog 46 = some vf_bCopyCheck := by kernel_rfl

/-- appendRune -/
def vf_appendRune : VFunc :=
  { m := 16, code := (sr [iO 4 (.mov (.c zL))] (.seq (sr [iM 5 1, iO 6 (.cvI .u32 (.t 5)), iK 7 .leq 6 .u32 127] (.cond (.t 7) (sr [iM 8 0, iM 9 1, iO 10 (.cvI .u8 (.t 9)), iO 11 (.bslc 1 [(.t 10)]), iO 12 (.app 5 1 [(.int .u8 0)] (.t 8) (.t 11)), iM 4 12] .ret) .skip)) (sr [iM 13 0, iM 14 1, iC 15 82 [(.t 13), (.t 14)], iM 4 15] .ret))), res := [(.t 4)] }

theorem cf_appendRune : cfunc Go.Proofs.Tryd.prog 73 = some vf_appendRune := by kernel_rfl

/-- appendRuneNA -/
def vf_appendRuneNA : VFunc :=
  { m := 78, code := (sr [iO 4 (.mov (.c zL))] (sr [iM 6 1, iO 7 (.cvI .u32 (.t 6)), iM 5 7] (.block 0 (sr [iM 12 5, iK 13 .leq 12 .u32 2047, iM 11 13] (.cond (.t 11) (sr [iM 14 0, iM 15 1, iK 16 .shr 15 .u64 6, iO 17 (.cvI .u8 (.t 16)), iO 18 (.bin .or (.c (.int .u8 192)) (.t 17)), iM 19 1, iO 20 (.cvI .u8 (.t 19)), iK 21 .and 20 .u8 63, iO 22 (.bin .or (.c (.int .u8 128)) (.t 21)), iO 23 (.bslc 1 [(.t 18), (.t 22)]), iO 24 (.app 5 1 [(.int .u8 0)] (.t 14) (.t 23)), iM 4 24] .ret) (.seq (sr [iM 26 5, iK 27 .lss 26 .u32 55296, iM 25 27] (.cond (.t 25) .skip (.reg [iM 28 5, iO 29 (.bin .lss (.c (.int .u32 57343)) (.t 28)), iM 30 29, iP 31 30 true 5, iJ 32 30 true .leq 31 .u32 65535, iU 33 30 32, iM 25 33]))) (.cond (.t 25) (sr [iM 34 0, iM 35 1, iK 36 .shr 35 .u64 12, iO 37 (.cvI .u8 (.t 36)), iO 38 (.bin .or (.c (.int .u8 224)) (.t 37)), iM 39 1, iK 40 .shr 39 .u64 6, iO 41 (.cvI .u8 (.t 40)), iK 42 .and 41 .u8 63, iO 43 (.bin .or (.c (.int .u8 128)) (.t 42)), iM 44 1, iO 45 (.cvI .u8 (.t 44)), iK 46 .and 45 .u8 63, iO 47 (.bin .or (.c (.int .u8 128)) (.t 46)), iO 48 (.bslc 1 [(.t 38), (.t 43), (.t 47)]), iO 49 (.app 5 1 [(.int .u8 0)] (.t 34) (.t 48)), iM 4 49] .ret) (sr [iM 51 5, iK 52 .gtr 51 .u32 65535, iM 53 52, iP 54 53 true 5, iJ 55 53 true .leq 54 .u32 1114111, iU 56 53 55, iM 50 56] (.cond (.t 50) (sr [iM 57 0, iM 58 1, iK 59 .shr 58 .u64 18, iO 60 (.cvI .u8 (.t 59)), iO 61 (.bin .or (.c (.int .u8 240)) (.t 60)), iM 62 1, iK 63 .shr 62 .u64 12, iO 64 (.cvI .u8 (.t 63)), iK 65 .and 64 .u8 63, iO 66 (.bin .or (.c (.int .u8 128)) (.t 65)), iM 67 1, iK 68 .shr 67 .u64 6, iO 69 (.cvI .u8 (.t 68)), iK 70 .and 69 .u8 63, iO 71 (.bin .or (.c (.int .u8 128)) (.t 70)), iM 72 1, iO 73 (.cvI .u8 (.t 72)), iK 74 .and 73 .u8 63, iO 75 (.bin .or (.c (.int .u8 128)) (.t 74)), iO 76 (.bslc 1 [(.t 61), (.t 66), (.t 71), (.t 75)]), iO 77 (.app 5 1 [(.int .u8 0)] (.t 57) (.t 76)), iM 4 77] .ret) (sr [iM 8 0, iO 9 (.bslc 1 [(.c (.int .u8 239)), (.c (.int .u8 191)), (.c (.int .u8 189))]), iO 10 (.app 5 1 [(.int .u8 0)] (.t 8) (.t 9)), iM 4 10] .ret)))))))))), res := [(.t 4)] }

theorem cf_appendRuneNA : cfunc Go.Proofs.Tryd.prog 82 = some vf_appendRuneNA := by kernel_rfl

end Go.Proofs.YtgdcdkgmeomhpaaDoor

namespace Go.Proofs.YtgdcdkgmeomhpaaDoor
open Go Go.Vs

/-- Byte cells. -/
def cells8 (l : List Nat) : List V := l.map fun (n : Nat) => V.int .u8 (n : Int)
def lettersN : List Nat := [98, 8, 102, 12, 110, 10, 114, 13, 116, 9]
def firstN : List Nat := List.replicate 128 240 ++ List.replicate 66 241 ++ List.replicate 30 2 ++ [19] ++ List.replicate 12 3 ++ [35, 3, 3, 52, 4, 4, 4, 68] ++ List.replicate 11 241
def acceptN : List Nat := [128, 191, 160, 191, 128, 159, 144, 191, 128, 143] ++ List.replicate 22 0
/-- The package-level variables that are listed, with what they hold. -/
def Gs : List (Nat × List V) := [(1, cells8 lettersN), (4, cells8 firstN), (5, cells8 acceptN), (2, [.iface 135 (.eptr [])]), (3, [.iface 135 (.eptr [])])]
noncomputable def Xc : Ctx := ⟨Go.Proofs.Tryd.prog, Gs⟩
theorem XG : Xc.G = Gs := rfl
theorem XP : Xc.P = Go.Proofs.Tryd.prog := rfl
theorem hmix : Xc.P.follows .mixedOrders = true := by rw [XP]; kernel_rfl

/-- A function by its body, at this seat. -/
theorem body {f : FuncId} {vf : VFunc} (hf : cfunc Go.Proofs.Tryd.prog f = some vf) {args : List V} {σ : St} {Q : Out → St → Prop} (hlen : Nat.ble args.length vf.m = true)
    (h : W Xc vf.code (FinK Xc vf.res σ Q) (args0 args) σ) : C Xc f args σ Q := C_body hmix (by rw [XP]; exact hf) hlen h

def spB (c : Nat) : Bool := c == 32 || c == 9 || c == 10 || c == 13

theorem isSpace_C {c : UInt8} {σ : St} {Q : Out → St → Prop} (h : Q (.ret (.bool (spB c.toNat))) σ) : C Xc 43 [.int .u8 (c.toNat : Int)] σ Q := by
  refine body cf_isSpace (Eq.refl true) ?_
  simp -implicitDefEqProofs only [vf_isSpace, ws, ↓reduceIte, Nat.reduceEqDiff, Nat.reduceAdd, Nat.reduceLeDiff]
  refine chooseK_split (fun h1 => ?_) (fun h1 => ?_) <;> simp -implicitDefEqProofs only [h1, ws, ↓reduceIte, Nat.reduceEqDiff, Nat.reduceAdd, Nat.reduceLeDiff]
  · refine .inl ?_
    have : spB c.toNat = true := by simp at h1; simp [spB]; omega
    rwa [this] at h
  refine chooseK_split (fun h2 => ?_) (fun h2 => ?_) <;> simp -implicitDefEqProofs only [h2, ws, ↓reduceIte, Nat.reduceEqDiff, Nat.reduceAdd, Nat.reduceLeDiff]
  · refine .inl ?_
    have : spB c.toNat = true := by simp at h2; simp [spB]; omega
    rwa [this] at h
  refine chooseK_split (fun h3 => ?_) (fun h3 => ?_) <;> simp -implicitDefEqProofs only [h3, ws, ↓reduceIte, Nat.reduceEqDiff, Nat.reduceAdd, Nat.reduceLeDiff]
  · refine .inl ?_
    have : spB c.toNat = true := by simp at h3; simp [spB]; omega
    rwa [this] at h
  refine .inl ?_
  have : ((c.toNat : Int) == 13) = spB c.toNat := by
    rw [Bool.eq_iff_iff]; simp at h1 h2 h3; simp [spB]; omega
  rwa [this]

/-- The parser's three cells. -/
abbrev psr (s : List UInt8) (i d : Nat) : List V := [.str s, .int .i64 i, .int .i64 d]

theorem wrap64 {n : Int} (h : -9223372036854775808 ≤ n ∧ n ≤ 9223372036854775807) : IntKind.wrap .i64 n = n := by
  simp only [IntKind.wrap, IntKind.bits, IntKind.signed, Bool.true_and]
  split <;> simp_all <;> omega

theorem wrong_C {s : List UInt8} {i d p : Nat} {σ : St} {Q : Out → St → Prop} (hp : σ.objs[p]? = some (psr s i d)) (h : Q (.pan (.iface 50 (.agg [.int .i64 i, .int .i64 (if i = s.length then 8 else 7)]))) σ) :
    C Xc 42 [.ref (some (p, 0))] σ Q := by
  refine body cf_wrong (Eq.refl true) ?_
  simp -implicitDefEqProofs only [vf_wrong, hp, ws, ↓reduceIte, Nat.reduceEqDiff, Nat.reduceAdd, Nat.reduceLeDiff]
  refine chooseK_split (fun h1 => ?_) (fun h1 => ?_) <;> simp -implicitDefEqProofs only [h1, hp, ws, ↓reduceIte, Nat.reduceEqDiff, Nat.reduceAdd, Nat.reduceLeDiff]
  · have : i = s.length := by simp at h1; omega
    rw [if_pos this] at h
    exact .inl h
  · have : ¬ i = s.length := by simp at h1; omega
    rw [if_neg this] at h
    exact .inl h

/-- Behind white space. -/
def skipSp (s : List UInt8) (i : Nat) : Nat := i + ((s.drop i).takeWhile fun c => spB c.toNat).length

theorem skipSp_step {s : List UInt8} {i : Nat} (h : i < s.length) : skipSp s i = if spB (s.getD i 0).toNat then skipSp s (i + 1) else i := by
  unfold skipSp
  rw [List.drop_eq_getElem_cons h, List.takeWhile_cons]
  have e : s.getD i 0 = s[i] := by simp [List.getD_eq_getElem?_getD, List.getElem?_eq_getElem h]
  rw [e]
  split <;> simp; omega
theorem skipSp_end (s : List UInt8) : skipSp s s.length = s.length := by simp [skipSp]

theorem set_get {α : Type} {l : List α} {p : Nat} {x y : α} (h : l[p]? = some x) : (l.set p y)[p]? = some y := by
  rw [List.getElem?_set_self (List.getElem?_eq_some_iff.1 h).1]
theorem set_same {α : Type} {l : List α} {p : Nat} {x : α} (h : l[p]? = some x) : l.set p x = l := by
  apply List.ext_getElem?
  intro i
  by_cases e : p = i
  · subst e; rw [set_get h, h]
  · rw [List.getElem?_set_ne e]

theorem spaces_C {s : List UInt8} {i d p : Nat} {σ : St} {Q : Out → St → Prop} (hp : σ.objs[p]? = some (psr s i d)) (hi : i ≤ s.length) (hs : s.length ≤ big)
    (h : Q (.ret .und) { σ with objs := σ.objs.set p (psr s (skipSp s i) d) }) : C Xc 26 [.ref (some (p, 0))] σ Q := by
  unfold big at hs
  refine body cf_spaces (Eq.refl true) ?_
  simp -implicitDefEqProofs only [vf_spaces, hp, ws, ↓reduceIte, Nat.reduceEqDiff, Nat.reduceAdd, Nat.reduceLeDiff]
  refine LoopP.intro (fun n fr σ' => ∃ j, j ≤ s.length ∧ n = s.length - j ∧ skipSp s j = skipSp s i ∧ fr 0 = .ref (some (p, 0)) ∧ σ' = { σ with objs := σ.objs.set p (psr s j d) }) (s.length - i)
    ⟨i, hi, rfl, rfl, rfl, by rw [set_same hp]⟩ ?_
  rintro n fr σ' ⟨j, hj, rfl, hjs, h0, rfl⟩
  have hp' : (σ.objs.set p (psr s j d))[p]? = some (psr s j d) := set_get hp
  simp -implicitDefEqProofs only [h0, hp', ws, ↓reduceIte, Nat.reduceEqDiff, Nat.reduceAdd, Nat.reduceLeDiff]
  refine chooseK_split (fun h1 => ?_) (fun h1 => ?_) <;> simp -implicitDefEqProofs only [h1, h0, hp', ws, ↓reduceIte, Nat.reduceEqDiff, Nat.reduceAdd, Nat.reduceLeDiff]
  · have h1' : (j : Int) < (s.length : Int) := by simpa using h1
    have hst := skipSp_step (s := s) (i := j) (by omega)
    simp -implicitDefEqProofs only [h1', h0, hp', ws, ↓reduceIte, Nat.reduceEqDiff, Nat.reduceAdd, Nat.reduceLeDiff]
    refine isSpace_C ?_
    simp -implicitDefEqProofs only [h1, h0, hp', ws, ↓reduceIte, Nat.reduceEqDiff, Nat.reduceAdd, Nat.reduceLeDiff]
    refine chooseK_split (fun h2 => ?_) (fun h2 => ?_) <;> simp -implicitDefEqProofs only [h2, h0, hp', ws, ↓reduceIte, Nat.reduceEqDiff, Nat.reduceAdd, Nat.reduceLeDiff]
    · rw [wrap64 (by omega)]
      rw [if_pos h2] at hst
      refine ⟨s.length - (j + 1), by omega, j + 1, by omega, rfl, by rw [← hjs, hst], ?_, ?_⟩
      · simp -implicitDefEqProofs only [h0, ws, ↓reduceIte, Nat.reduceEqDiff, Nat.reduceAdd, Nat.reduceLeDiff]
      · simp [List.set_set, psr]
    · rw [if_neg (by simpa using h2)] at hst
      rw [← hjs, hst] at h
      exact .inl h
  · have h1' : ¬ (j : Int) < (s.length : Int) := by simpa using h1
    obtain rfl : j = s.length := by omega
    rw [← hjs, skipSp_end] at h
    exact .inl h

theorem skipSp_le {s : List UInt8} {i : Nat} (h : i ≤ s.length) : skipSp s i ≤ s.length := by
  unfold skipSp
  have := (List.takeWhile_sublist (l := s.drop i) fun c => spB c.toNat).length_le
  simp only [List.length_drop] at this
  omega
theorem skipSp_ge (s : List UInt8) (i : Nat) : i ≤ skipSp s i := Nat.le_add_right _ _

/-- The byte at a place, or 0. -/
def byteAt (s : List UInt8) (i : Nat) : UInt8 := s.getD i 0
theorem byteAt_end {s : List UInt8} {i : Nat} (h : s.length ≤ i) : byteAt s i = 0 := by simp [byteAt, List.getD_eq_getElem?_getD, List.getElem?_eq_none h]

theorem peek_C {s : List UInt8} {i d p : Nat} {σ : St} {Q : Out → St → Prop} (hp : σ.objs[p]? = some (psr s i d)) (hi : i ≤ s.length) (hs : s.length ≤ big)
    (h : Q (.ret (.int .u8 ((byteAt s (skipSp s i)).toNat : Int))) { σ with objs := σ.objs.set p (psr s (skipSp s i) d) }) : C Xc 33 [.ref (some (p, 0))] σ Q := by
  have hle := skipSp_le hi
  refine body cf_peek (Eq.refl true) ?_
  simp -implicitDefEqProofs only [vf_peek, hp, ws, ↓reduceIte, Nat.reduceEqDiff, Nat.reduceAdd, Nat.reduceLeDiff]
  refine spaces_C hp hi hs ?_
  have hp' : (σ.objs.set p (psr s (skipSp s i) d))[p]? = some (psr s (skipSp s i) d) := set_get hp
  simp -implicitDefEqProofs only [hp', ws, ↓reduceIte, Nat.reduceEqDiff, Nat.reduceAdd, Nat.reduceLeDiff]
  refine chooseK_split (fun h1 => ?_) (fun h1 => ?_) <;> simp -implicitDefEqProofs only [h1, hp', ws, ↓reduceIte, Nat.reduceEqDiff, Nat.reduceAdd, Nat.reduceLeDiff]
  · have h1' : skipSp s i = s.length := by simp at h1; omega
    rw [byteAt_end (by omega)] at h
    exact .inl h
  · have h1' : skipSp s i ≠ s.length := by simp at h1; omega
    refine ⟨by omega, ?_⟩
    exact .inl h

theorem expect_C {s : List UInt8} {i d p : Nat} {c : UInt8} {σ : St} {Q : Out → St → Prop} (hp : σ.objs[p]? = some (psr s i d)) (hi : i ≤ s.length) (hs : s.length ≤ big)
    (h : if byteAt s (skipSp s i) = c ∧ skipSp s i ≠ s.length then Q (.ret .und) { σ with objs := σ.objs.set p (psr s (skipSp s i + 1) d) }
      else Q (.pan (.iface 50 (.agg [.int .i64 (skipSp s i), .int .i64 (if skipSp s i = s.length then 8 else 7)]))) { σ with objs := σ.objs.set p (psr s (skipSp s i) d) }) : C Xc 53 [.ref (some (p, 0)), .int .u8 (c.toNat : Int)] σ Q := by
  have hle := skipSp_le hi
  unfold big at hs
  refine body cf_expect (Eq.refl true) ?_
  simp -implicitDefEqProofs only [vf_expect, hp, ws, ↓reduceIte, Nat.reduceEqDiff, Nat.reduceAdd, Nat.reduceLeDiff]
  refine peek_C hp hi (by unfold big; omega) ?_
  have hp' : (σ.objs.set p (psr s (skipSp s i) d))[p]? = some (psr s (skipSp s i) d) := set_get hp
  simp -implicitDefEqProofs only [hp', ws, ↓reduceIte, Nat.reduceEqDiff, Nat.reduceAdd, Nat.reduceLeDiff]
  have bad : ¬ (byteAt s (skipSp s i) = c ∧ skipSp s i ≠ s.length) → C Xc 42 [.ref (some (p, 0))] { σ with objs := σ.objs.set p (psr s (skipSp s i) d) } (fun o σ1 => ∃ v, o = .pan v ∧ Q (.pan v) σ1) := fun hb => by
    rw [if_neg hb] at h
    exact wrong_C hp' ⟨_, rfl, h⟩
  refine chooseK_split (fun h1 => ?_) (fun h1 => ?_) <;> simp -implicitDefEqProofs only [h1, hp', ws, ↓reduceIte, Nat.reduceEqDiff, Nat.reduceAdd, Nat.reduceLeDiff]
  · refine (bad (fun hb => by simp [hb.1] at h1)).mono ?_
    rintro o σ1 ⟨v, rfl, hv⟩
    simp -implicitDefEqProofs only [ws, ↓reduceIte, Nat.reduceEqDiff, Nat.reduceAdd, Nat.reduceLeDiff]
    exact .inl hv
  · refine chooseK_split (fun h2 => ?_) (fun h2 => ?_) <;> simp -implicitDefEqProofs only [h2, hp', ws, ↓reduceIte, Nat.reduceEqDiff, Nat.reduceAdd, Nat.reduceLeDiff]
    · refine (bad (fun hb => by simp at h2; omega)).mono ?_
      rintro o σ1 ⟨v, rfl, hv⟩
      simp -implicitDefEqProofs only [ws, ↓reduceIte, Nat.reduceEqDiff, Nat.reduceAdd, Nat.reduceLeDiff]
      exact .inl hv
    · have h2' : skipSp s i ≠ s.length := by simp at h2; omega
      have h1' : byteAt s (skipSp s i) = c := UInt8.toNat_inj.1 (by simp at h1; omega)
      rw [if_pos ⟨h1', h2'⟩] at h
      rw [wrap64 (by omega)]
      refine .inl ?_
      simpa [List.set_set, psr, V.und] using h

def hasPre (s p : List UInt8) : Bool := s.take p.length == p

theorem slHasPrefix_C {s p : List UInt8} {σ : St} {Q : Out → St → Prop} (h : Q (.ret (.bool (hasPre s p))) σ) : C Xc 32 [.str s, .str p] σ Q := by
  refine body cf_slHasPrefix (Eq.refl true) ?_
  simp -implicitDefEqProofs only [vf_slHasPrefix, ws, ↓reduceIte, Nat.reduceEqDiff, Nat.reduceAdd, Nat.reduceLeDiff]
  refine chooseK_split (fun h1 => ?_) (fun h1 => ?_) <;> simp -implicitDefEqProofs only [h1, ws, ↓reduceIte, Nat.reduceEqDiff, Nat.reduceAdd, Nat.reduceLeDiff]
  · have h1' : p.length ≤ s.length := by simp at h1; omega
    refine ⟨by omega, ?_⟩
    simp -implicitDefEqProofs only [cutSK, cut, h1, ws, ↓reduceIte, Nat.reduceEqDiff, Nat.reduceAdd, Nat.reduceLeDiff]
    exact .inl h
  · have h1' : ¬ p.length ≤ s.length := by simp at h1; omega
    have : hasPre s p = false := by
      unfold hasPre
      rw [beq_eq_false_iff_ne]
      intro e
      have := congrArg List.length e
      rw [List.length_take] at this
      omega
    rw [this] at h
    exact .inl h

theorem hasPrefix_C {s p : List UInt8} {σ : St} {Q : Out → St → Prop} (h : Q (.ret (.bool (hasPre s p))) σ) : C Xc 24 [.str s, .str p] σ Q := by
  refine body cf_hasPrefix (Eq.refl true) ?_
  simp -implicitDefEqProofs only [vf_hasPrefix, ws, ↓reduceIte, Nat.reduceEqDiff, Nat.reduceAdd, Nat.reduceLeDiff]
  refine slHasPrefix_C ?_
  simp -implicitDefEqProofs only [ws, ↓reduceIte, Nat.reduceEqDiff, Nat.reduceAdd, Nat.reduceLeDiff]
  exact .inl h

theorem slIndexByte_C {s : List UInt8} {c : UInt8} {σ : St} {Q : Out → St → Prop} (h : Q (.ret (.int .i64 (Lib.indexByte s c))) σ) : C Xc 58 [.str s, .int .u8 (c.toNat : Int)] σ Q := by
  refine body cf_slIndexByte (Eq.refl true) ?_
  simp -implicitDefEqProofs only [vf_slIndexByte, ixByte, ws, ↓reduceIte, Nat.reduceEqDiff, Nat.reduceAdd, Nat.reduceLeDiff]
  refine .inl ?_
  simpa using h

theorem indexByte_C {s : List UInt8} {c : UInt8} {σ : St} {Q : Out → St → Prop} (h : Q (.ret (.int .i64 (Lib.indexByte s c))) σ) : C Xc 48 [.str s, .int .u8 (c.toNat : Int)] σ Q := by
  refine body cf_indexByte (Eq.refl true) ?_
  simp -implicitDefEqProofs only [vf_indexByte, ws, ↓reduceIte, Nat.reduceEqDiff, Nat.reduceAdd, Nat.reduceLeDiff]
  refine slIndexByte_C ?_
  simp -implicitDefEqProofs only [ws, ↓reduceIte, Nat.reduceEqDiff, Nat.reduceAdd, Nat.reduceLeDiff]
  exact .inl h

/-- May a value begin with this byte? -/
def beginsB (c : UInt8) : Bool := decide (Lib.indexByte [110, 116, 102, 34, 45, 48, 49, 50, 51, 52, 53, 54, 55, 56, 57, 91, 123] c ≥ 0)

theorem begins_C {c : UInt8} {σ : St} {Q : Out → St → Prop} (h : Q (.ret (.bool (beginsB c))) σ) : C Xc 34 [.int .u8 (c.toNat : Int)] σ Q := by
  refine body cf_begins (Eq.refl true) ?_
  simp -implicitDefEqProofs only [vf_begins, ws, ↓reduceIte, Nat.reduceEqDiff, Nat.reduceAdd, Nat.reduceLeDiff]
  refine indexByte_C ?_
  simp -implicitDefEqProofs only [ws, ↓reduceIte, Nat.reduceEqDiff, Nat.reduceAdd, Nat.reduceLeDiff]
  exact .inl h
end Go.Proofs.YtgdcdkgmeomhpaaDoor

namespace Go.Proofs.YtgdcdkgmeomhpaaDoor
open Go Go.Vs

mutual
/-- A JSON value (api.Value): kind, bool, number, string, items, members, offset. 'ni', 'nm': an empty list that is not nil. -/
inductive JV where
  | mk (k : Int) (b : Bool) (n : Int) (s : List UInt8) (ni : Bool) (is : List JV) (nm : Bool) (ms : List JM) (a : Int)
inductive JM where
  | mk (key : List UInt8) (v : JV) (a : Int)
end

def slcE (nn : Bool) (xs : List V) : V := .slc (nn || !xs.isEmpty) xs .no

mutual
def JV.cells : JV → List V
  | .mk k b n s ni is nm ms a => [.int .i64 k, .bool b, .int .i64 n, .str s, slcE ni (encL is), slcE nm (encMs ms), .int .i64 a]
def encL : List JV → List V
  | [] => []
  | v :: r => .agg v.cells :: encL r
def JM.cells : JM → List V
  | .mk key v a => .str key :: v.cells ++ [.int .i64 a]
def encMs : List JM → List V
  | [] => []
  | m :: r => .agg m.cells :: encMs r
end
def JV.enc (v : JV) : V := .agg v.cells
def JM.enc (m : JM) : V := .agg m.cells

theorem JV.len (v : JV) : v.cells.length = 7 := by cases v; simp [JV.cells]
theorem JM.len (m : JM) : m.cells.length = 9 := by cases m; simp [JM.cells, JV.len]

theorem cleanL_append (k : Nat) (a b : List V) : cleanL k (a ++ b) = cleanL k a ++ cleanL k b := by simp [cleanL_eq]
theorem fitsL_append (n nm k : Nat) (a b : List V) : fitsL n nm k (a ++ b) = (fitsL n nm k a && fitsL n nm k b) := by
  induction a with
  | nil => simp [fitsL]
  | cons x a ih => simp [fitsL, ih, Bool.and_assoc]

theorem take7 (j : JV) : List.take 7 j.cells = j.cells := List.take_of_length_le (by simp [JV.len])
theorem drop7 {l : List V} (h : l.length = 7) : List.drop 7 l = [] := List.drop_of_length_le (by omega)

mutual
theorem JV.clean (k : Nat) : ∀ v : JV, cleanL k v.cells = v.cells
  | .mk _ _ _ _ _ is _ ms _ => by simp [JV.cells, cleanL, V.clean, slcE, encL_clean k is, encMs_clean k ms, Tk.clean]
theorem encL_clean (k : Nat) : ∀ l : List JV, cleanL k (encL l) = encL l
  | [] => rfl
  | v :: r => by simp [encL, cleanL, V.clean, JV.clean k v, encL_clean k r]
theorem JM.clean (k : Nat) : ∀ m : JM, cleanL k m.cells = m.cells
  | .mk _ v _ => by simp [JM.cells, cleanL, V.clean, JV.clean k v, cleanL_append]
theorem encMs_clean (k : Nat) : ∀ l : List JM, cleanL k (encMs l) = encMs l
  | [] => rfl
  | m :: r => by simp [encMs, cleanL, V.clean, JM.clean k m, encMs_clean k r]
end
mutual
theorem JV.fits (n nm k : Nat) : ∀ v : JV, fitsL n nm k v.cells = true
  | .mk _ _ _ _ _ is _ ms _ => by simp [JV.cells, fitsL, V.fits, slcE, encL_fits n nm k is, encMs_fits n nm k ms, Tk.fits]
theorem encL_fits (n nm k : Nat) : ∀ l : List JV, fitsL n nm k (encL l) = true
  | [] => rfl
  | v :: r => by simp [encL, fitsL, V.fits, JV.fits n nm k v, encL_fits n nm k r]
theorem JM.fits (n nm k : Nat) : ∀ m : JM, fitsL n nm k m.cells = true
  | .mk _ v _ => by simp [JM.cells, fitsL, V.fits, JV.fits n nm k v, fitsL_append]
theorem encMs_fits (n nm k : Nat) : ∀ l : List JM, fitsL n nm k (encMs l) = true
  | [] => rfl
  | m :: r => by simp [encMs, fitsL, V.fits, JM.fits n nm k m, encMs_fits n nm k r]
end

/-- A function by its body, the store well formed. -/
theorem bodyW {f : FuncId} {vf : VFunc} (hf : cfunc Go.Proofs.Tryd.prog f = some vf) {args : List V} {σ : St} {Q : Out → St → Prop} (hlen : Nat.ble args.length vf.m = true)
    (h : σ.wf → W Xc vf.code (FinK Xc vf.res σ Q) (args0 args) σ) : C Xc f args σ Q := C_wf (cfunc_callable (by rw [XP]; exact hf)) fun hw => body hf hlen (h hw)

theorem cut_drop {α : Type} (s : List α) (i : Nat) : cut s i s.length = s.drop i := by simp [cut]

section
variable {α : Type}
theorem app_get {A : List α} {n : Nat} (x : α) (r : List α) (h : A.length = n) : (A ++ x :: r)[n]? = some x := by subst h; simp
theorem app_get1 {A : List α} {n : Nat} (x y : α) (r : List α) (h : A.length = n) : (A ++ x :: y :: r)[n + 1]? = some y := by subst h; simp
theorem app_set {A : List α} {n : Nat} (x y : α) (r : List α) (h : A.length = n) : (A ++ x :: r).set n y = A ++ y :: r := by subst h; simp
theorem app_set1 {A : List α} {n : Nat} (x y z : α) (r : List α) (h : A.length = n) : (A ++ x :: y :: r).set (n + 1) z = A ++ x :: z :: r := by subst h; simp [List.set_append_right]
theorem app_low {A : List α} {p : Nat} {x : α} (r : List α) (h : A[p]? = some x) : (A ++ r)[p]? = some x := by
  rw [List.getElem?_append_left (List.getElem?_eq_some_iff.1 h).1]; exact h
theorem set_low {A : List α} {p : Nat} (y : α) (r : List α) (h : p < A.length) : (A ++ r).set p y = A.set p y ++ r := by
  rw [List.set_append_left _ _ h]
end

theorem word_C {s name : List UInt8} {i d p : Nat} {j : JV} {σ : St} {Q : Out → St → Prop} (hp : σ.objs[p]? = some (psr s i d)) (hi : i ≤ s.length) (hs : s.length ≤ big) (hn : name.length ≤ big)
    (h : if hasPre (s.drop i) name = true then Q (.ret j.enc) { σ with objs := σ.objs.set p (psr s (i + name.length) d) } else Q (.pan (.iface 50 (.agg [.int .i64 i, .int .i64 7]))) σ) :
    C Xc 35 [.ref (some (p, 0)), .str name, j.enc] σ Q := by
  unfold big at hs hn
  have hlt : p < σ.objs.length := (List.getElem?_eq_some_iff.1 hp).1
  have hq : ∀ a b : List V, (σ.objs ++ [a] ++ [b])[p]? = some (psr s i d) := fun a b => by
    rw [List.append_assoc, List.getElem?_append_left hlt]; exact hp
  refine bodyW cf_pword (Eq.refl true) fun hw => ?_
  simp -implicitDefEqProofs only [vf_pword, JV.enc, hq, ws, ↓reduceIte, Nat.reduceEqDiff, Nat.reduceAdd, Nat.reduceLeDiff]
  refine ⟨by omega, ?_⟩
  simp -implicitDefEqProofs only [cut_drop, ws, ↓reduceIte, Nat.reduceEqDiff, Nat.reduceAdd, Nat.reduceLeDiff]
  refine hasPrefix_C ?_
  simp -implicitDefEqProofs only [cut_drop, hq, ws, ↓reduceIte, Nat.reduceEqDiff, Nat.reduceAdd, Nat.reduceLeDiff]
  refine chooseK_split (fun h1 => ?_) (fun h1 => ?_) <;> simp -implicitDefEqProofs only [h1, hq, ws, ↓reduceIte, Nat.reduceEqDiff, Nat.reduceAdd, Nat.reduceLeDiff]
  · rw [if_pos h1] at h
    have e0 : ∀ (a b : List V) (x : List V), (σ.objs ++ [a] ++ [b]).set p x = σ.objs.set p x ++ [a, b] := fun a b x => by
      rw [List.append_assoc]; exact set_low x _ hlt
    have l0 : ∀ x : List V, (σ.objs.set p x).length = σ.objs.length := fun x => by simp
    simp -implicitDefEqProofs only [e0, app_get _ _ (l0 _), app_get1 _ _ _ (l0 _), app_set1 _ _ _ _ (l0 _), JV.len, take7, drop7, ws, ↓reduceIte, Nat.reduceEqDiff, Nat.reduceAdd, Nat.reduceLeDiff]
    rw [wrap64 (by omega)]
    have hset := set_get (y := psr s (i + name.length) d) hp
    rw [List.append_assoc]
    refine exitCutO (by simp) rfl rfl (by simpa using hw.1) hw.2 ?_ (fun o cs ho => ?_) (fun r es hr => .inl hr) ?_
    · simp [Out.clean, Out.fits, V.clean, V.fits, JV.clean, JV.fits]
    · by_cases e : o = p
      · subst e
        rw [List.getElem?_set_self hlt] at ho
        cases ho
        exact .inr (by simp [fitsL, V.fits])
      · rw [List.getElem?_set_ne (Ne.symm e)] at ho
        exact .inl ho
    · simpa [Out.clean, V.clean, JV.clean, JV.enc, psr] using h
  · rw [if_neg (by simp [h1])] at h
    rw [List.append_assoc, List.append_assoc]
    refine exitCutO rfl rfl rfl hw.1 hw.2 ?_ (fun o cs ho => .inl ho) (fun r es hr => .inl hr) ?_
    · simp [Out.clean, Out.fits, V.clean, V.fits, cleanL, fitsL]
    · simpa [Out.clean, V.clean, cleanL] using h
end Go.Proofs.YtgdcdkgmeomhpaaDoor

namespace Go.Proofs.YtgdcdkgmeomhpaaDoor
open Go Go.Vs

/-- A hexadecimal digit's value. -/
def hexV (c : UInt8) : Option Nat :=
  if 48 ≤ c.toNat ∧ c.toNat ≤ 57 then some (c.toNat - 48)
  else if 97 ≤ c.toNat ∧ c.toNat ≤ 102 then some (c.toNat - 87)
  else if 65 ≤ c.toNat ∧ c.toNat ≤ 70 then some (c.toNat - 55)
  else none

def hexF : List UInt8 → Nat → Option Nat
  | [], a => some a
  | c :: r, a => match hexV c with
    | some d => hexF r (a * 16 + d)
    | none => none

/-- The number of a sequence with u at the head. -/
def unitS (s : List UInt8) : Option Nat := if 6 ≤ s.length ∧ s.take 2 = [92, 117] then hexF ((s.drop 2).take 4) 0 else none

def hexI (c : UInt8) : Int := match hexV c with | some d => d | none => -1
theorem all_u8 {p : UInt8 → Bool} (h : (List.range 256).all (fun n => p (UInt8.ofNat n)) = true) (c : UInt8) : p c = true := by
  have := List.all_eq_true.1 h c.toNat (List.mem_range.2 c.toNat_lt)
  simpa using this
theorem hex_low (c : UInt8) (h : ¬ (65 ≤ c.toNat ∧ c.toNat ≤ 70)) : Lib.indexByte [48, 49, 50, 51, 52, 53, 54, 55, 56, 57, 97, 98, 99, 100, 101, 102] c = hexI c := by
  have := all_u8 (p := fun c => (decide (65 ≤ c.toNat ∧ c.toNat ≤ 70)) || decide (Lib.indexByte [48, 49, 50, 51, 52, 53, 54, 55, 56, 57, 97, 98, 99, 100, 101, 102] c = hexI c)) (by kernel_rfl) c
  simpa [h] using this
theorem hex_up (c : UInt8) (h : 65 ≤ c.toNat ∧ c.toNat ≤ 70) : Lib.indexByte [48, 49, 50, 51, 52, 53, 54, 55, 56, 57, 97, 98, 99, 100, 101, 102] (c + 32) = hexI c := by
  have := all_u8 (p := fun c => !(decide (65 ≤ c.toNat ∧ c.toNat ≤ 70)) || decide (Lib.indexByte [48, 49, 50, 51, 52, 53, 54, 55, 56, 57, 97, 98, 99, 100, 101, 102] (c + 32) = hexI c)) (by kernel_rfl) c
  simpa [h] using this
theorem hexV_lt {c : UInt8} {d : Nat} (h : hexV c = some d) : d < 16 := by
  unfold hexV at h
  split at h
  · cases h; omega
  · split at h
    · cases h; omega
    · split at h
      · cases h; omega
      · cases h

theorem wrap32 {n : Nat} (h : n < 2147483648) : IntKind.wrap .i32 (n : Int) = n := by
  simp only [IntKind.wrap, IntKind.bits, IntKind.signed, Bool.true_and]
  split <;> simp_all <;> omega
theorem or16 {a d : Nat} (ha : a < 4096) (hd : d < 16) : ibits .or .i32 (IntKind.wrap .i32 ((a : Int) * 2 ^ (min (Int.toNat 4) (IntKind.bits .i32)))) (IntKind.wrap .i32 (d : Int)) = ((a * 16 + d : Nat) : Int) := by
  have e : (a : Int) * 2 ^ (min (Int.toNat 4) (IntKind.bits .i32)) = ((a * 16 : Nat) : Int) := by
    have : (min (Int.toNat 4) (IntKind.bits .i32)) = 4 := by decide
    rw [this]; omega
  rw [e, wrap32 (by omega), wrap32 (by omega)]
  have h1 : (BitVec.ofInt 32 ((a * 16 : Nat) : Int) ||| BitVec.ofInt 32 (d : Int)).toNat = a * 16 + d := by
    rw [BitVec.ofInt_natCast, BitVec.ofInt_natCast, BitVec.toNat_or, BitVec.toNat_ofNat, BitVec.toNat_ofNat, Nat.mod_eq_of_lt (by omega), Nat.mod_eq_of_lt (by omega)]
    have := Nat.shiftLeft_add_eq_or_of_lt (i := 4) (b := d) (by omega) a
    rw [Nat.shiftLeft_eq, show (2 : Nat) ^ 4 = 16 from rfl] at this
    omega
  show IntKind.wrap .i32 ((BitVec.ofInt 32 ((a * 16 : Nat) : Int) ||| BitVec.ofInt 32 (d : Int)).toNat : Int) = _
  rw [h1, wrap32 (by omega)]


theorem unit_C {s : List UInt8} {σ : St} {Q : Out → St → Prop} (h : Q (.ret (match unitS s with | some n => .tup [.int .i32 (n : Int), .bool true] | none => .tup [.int .i32 0, .bool false])) σ) : C Xc 72 [.str s] σ Q := by
  refine body cf_jsUnit (Eq.refl true) ?_
  simp -implicitDefEqProofs only [vf_jsUnit, ws, ↓reduceIte, Nat.reduceEqDiff, Nat.reduceAdd, Nat.reduceLeDiff]
  refine chooseK_split (fun h1 => ?_) (fun h1 => ?_) <;> simp -implicitDefEqProofs only [h1, ws, ↓reduceIte, Nat.reduceEqDiff, Nat.reduceAdd, Nat.reduceLeDiff]
  · have h1' : s.length < 6 := by simp at h1; omega
    have : unitS s = none := by unfold unitS; rw [if_neg]; omega
    rw [this] at h
    exact .inl h
  have h1' : 6 ≤ s.length := by simp at h1; omega
  refine ⟨by omega, ?_⟩
  simp -implicitDefEqProofs only [cut, h1, ws, ↓reduceIte, Nat.reduceEqDiff, Nat.reduceAdd, Nat.reduceLeDiff]
  refine chooseK_split (fun h2 => ?_) (fun h2 => ?_) <;> simp -implicitDefEqProofs only [h2, ws, ↓reduceIte, Nat.reduceEqDiff, Nat.reduceAdd, Nat.reduceLeDiff]
  case refine_2 =>
    have : unitS s = none := by
      unfold unitS; rw [if_neg]
      rintro ⟨_, h3⟩
      simp [h3] at h2
    rw [this] at h
    exact .inl h
  have h2' : s.take 2 = [92, 117] := by simpa using h2
  have hc : cut s 2 6 = (s.drop 2).take 4 := by simp [cut, List.drop_take]
  have hl : ((s.drop 2).take 4).length = 4 := by simp; omega
  refine ⟨⟨by omega, by omega⟩, ⟨by omega, by omega⟩, ?_, ?_⟩
  · show (cut s 2 6).length ≤ big
    rw [hc, hl]; unfold big; omega
  have hu : unitS s = hexF ((s.drop 2).take 4) 0 := by unfold unitS; rw [if_pos ⟨h1', h2'⟩]
  rw [hu] at h
  generalize hds : (s.drop 2).take 4 = ds at h hl hc
  have hc' : cut s (Int.toNat 2) (Int.toNat 6) = ds := hc
  rw [hc']
  refine LoopP.intro (fun n fr σ' => ∃ j r, j ≤ 4 ∧ n = 4 - j ∧ r < 16 ^ j ∧ hexF (ds.drop j) r = hexF ds 0 ∧ fr 18 = .slc true (bytesV ds) .no ∧ fr 19 = .int .i64 4 ∧ fr 20 = .int .i64 j ∧ fr 4 = .int .i32 r ∧ σ' = σ) 4 ?_ ?_
  · refine ⟨0, 0, by omega, rfl, by omega, by simp, ?_, ?_, ?_, ?_, rfl⟩ <;> simp [upd, bytesV, hl]
  have hbl : (bytesV ds).length = 4 := by simp [bytesV, hl]
  have hbc : ∀ y ∈ bytesV ds, y.cells.length = 1 := fun y hy => by
    obtain ⟨b, _, rfl⟩ := List.mem_map.1 hy; rfl
  rintro n fr σ' ⟨j, r, hj, rfl, hr, hx, f18, f19, f20, f4, rfl⟩
  simp -implicitDefEqProofs only [f18, f19, f20, f4, ws, ↓reduceIte, Nat.reduceEqDiff, Nat.reduceAdd, Nat.reduceLeDiff]
  refine chooseK_split (fun h3 => ?_) (fun h3 => ?_)
  · have h3' : j < 4 := by simp at h3; omega
    have hb : (bytesV ds).getD j .und = .int .u8 ((ds.getD j 0).toNat : Int) := by
      simp [bytesV, List.getD_eq_getElem?_getD, List.getElem?_eq_getElem (show j < ds.length by omega)]
    simp -implicitDefEqProofs only [h3, f18, f19, f20, f4, hb, hbl, hbc, ws, ↓reduceIte, Nat.reduceEqDiff, Nat.reduceAdd, Nat.reduceLeDiff]
    refine ⟨by omega, hbc, ?_⟩
    have hdc : ds.drop j = ds.getD j 0 :: ds.drop (j + 1) := by
      rw [List.drop_eq_getElem_cons (by omega), List.getD_eq_getElem?_getD, List.getElem?_eq_getElem (by omega)]; rfl
    rw [hdc] at hx
    generalize ds.getD j 0 = c at hx hb ⊢
    refine chooseK_split (fun h4 => ?_) (fun h4 => ?_) <;> simp -implicitDefEqProofs only [h4, ws, ↓reduceIte, Nat.reduceEqDiff, Nat.reduceAdd, Nat.reduceLeDiff]
    · refine chooseK_split (fun h5 => ?_) (fun h5 => ?_) <;> simp -implicitDefEqProofs only [h5, ws, ↓reduceIte, Nat.reduceEqDiff, Nat.reduceAdd, Nat.reduceLeDiff]
      · have e : IntKind.wrap .u8 ((c.toNat : Int) + 32) = ((c + 32).toNat : Int) := by
          simp at h4 h5
          have : (c + 32).toNat = c.toNat + 32 := by
            rw [UInt8.toNat_add]; simp; omega
          rw [this]
          simp [IntKind.wrap, IntKind.bits, IntKind.signed]
          omega
        rw [e]
        refine indexByte_C ?_
        rw [hex_up c (by simp at h4 h5; omega)]
        simp -implicitDefEqProofs only [ws, ↓reduceIte, Nat.reduceEqDiff, Nat.reduceAdd, Nat.reduceLeDiff]
        cases hv : hexV c with
        | none =>
          have hI : hexI c = -1 := by simp [hexI, hv]
          rw [hI]
          have hm1 : ((-1 : Int) < 0) := by decide
          simp -implicitDefEqProofs only [hm1, ws, ↓reduceIte, Nat.reduceEqDiff, Nat.reduceAdd, Nat.reduceLeDiff]
          have : hexF ds 0 = none := by rw [← hx]; simp [hexF, hv]
          rw [this] at h
          exact .inl h
        | some d =>
          have hI : hexI c = (d : Int) := by simp [hexI, hv]
          have hd := hexV_lt hv
          rw [hI]
          have hn0 : ¬ ((d : Int) < 0) := by omega
          simp -implicitDefEqProofs only [hn0, f4, f20, ws, ↓reduceIte, Nat.reduceEqDiff, Nat.reduceAdd, Nat.reduceLeDiff]
          refine ⟨by omega, 4 - (j + 1), by omega, j + 1, r * 16 + d, by omega, rfl, by rw [Nat.pow_succ]; omega, by rw [← hx]; simp [hexF, hv], ?_, ?_, ?_, ?_, rfl⟩
          · simp [upd, f18]
          · simp [upd, f19]
          · simp [upd]; rw [wrap64 (by omega)]
          · simp -implicitDefEqProofs only [ws, ↓reduceIte, Nat.reduceEqDiff, Nat.reduceAdd, Nat.reduceLeDiff]
            have hr' : r < 4096 := Nat.lt_of_lt_of_le hr (by
              have : 16 ^ j ≤ 16 ^ 3 := Nat.pow_le_pow_right (by omega) (by omega)
              omega)
            rw [or16 hr' hd]
      · refine indexByte_C ?_
        rw [hex_low c (by simp at h4 h5; omega)]
        simp -implicitDefEqProofs only [ws, ↓reduceIte, Nat.reduceEqDiff, Nat.reduceAdd, Nat.reduceLeDiff]
        cases hv : hexV c with
        | none =>
          have hI : hexI c = -1 := by simp [hexI, hv]
          rw [hI]
          have hm1 : ((-1 : Int) < 0) := by decide
          simp -implicitDefEqProofs only [hm1, ws, ↓reduceIte, Nat.reduceEqDiff, Nat.reduceAdd, Nat.reduceLeDiff]
          have : hexF ds 0 = none := by rw [← hx]; simp [hexF, hv]
          rw [this] at h
          exact .inl h
        | some d =>
          have hI : hexI c = (d : Int) := by simp [hexI, hv]
          have hd := hexV_lt hv
          rw [hI]
          have hn0 : ¬ ((d : Int) < 0) := by omega
          simp -implicitDefEqProofs only [hn0, f4, f20, ws, ↓reduceIte, Nat.reduceEqDiff, Nat.reduceAdd, Nat.reduceLeDiff]
          refine ⟨by omega, 4 - (j + 1), by omega, j + 1, r * 16 + d, by omega, rfl, by rw [Nat.pow_succ]; omega, by rw [← hx]; simp [hexF, hv], ?_, ?_, ?_, ?_, rfl⟩
          · simp [upd, f18]
          · simp [upd, f19]
          · simp [upd]; rw [wrap64 (by omega)]
          · simp -implicitDefEqProofs only [ws, ↓reduceIte, Nat.reduceEqDiff, Nat.reduceAdd, Nat.reduceLeDiff]
            have hr' : r < 4096 := Nat.lt_of_lt_of_le hr (by
              have : 16 ^ j ≤ 16 ^ 3 := Nat.pow_le_pow_right (by omega) (by omega)
              omega)
            rw [or16 hr' hd]
    · refine indexByte_C ?_
      rw [hex_low c (by simp at h4; omega)]
      simp -implicitDefEqProofs only [ws, ↓reduceIte, Nat.reduceEqDiff, Nat.reduceAdd, Nat.reduceLeDiff]
      cases hv : hexV c with
      | none =>
        have hI : hexI c = -1 := by simp [hexI, hv]
        rw [hI]
        have hm1 : ((-1 : Int) < 0) := by decide
        simp -implicitDefEqProofs only [hm1, ws, ↓reduceIte, Nat.reduceEqDiff, Nat.reduceAdd, Nat.reduceLeDiff]
        have : hexF ds 0 = none := by rw [← hx]; simp [hexF, hv]
        rw [this] at h
        exact .inl h
      | some d =>
        have hI : hexI c = (d : Int) := by simp [hexI, hv]
        have hd := hexV_lt hv
        rw [hI]
        have hn0 : ¬ ((d : Int) < 0) := by omega
        simp -implicitDefEqProofs only [hn0, f4, f20, ws, ↓reduceIte, Nat.reduceEqDiff, Nat.reduceAdd, Nat.reduceLeDiff]
        refine ⟨by omega, 4 - (j + 1), by omega, j + 1, r * 16 + d, by omega, rfl, by rw [Nat.pow_succ]; omega, by rw [← hx]; simp [hexF, hv], ?_, ?_, ?_, ?_, rfl⟩
        · simp [upd, f18]
        · simp [upd, f19]
        · simp [upd]; rw [wrap64 (by omega)]
        · simp -implicitDefEqProofs only [ws, ↓reduceIte, Nat.reduceEqDiff, Nat.reduceAdd, Nat.reduceLeDiff]
          have hr' : r < 4096 := Nat.lt_of_lt_of_le hr (by
            have : 16 ^ j ≤ 16 ^ 3 := Nat.pow_le_pow_right (by omega) (by omega)
            omega)
          rw [or16 hr' hd]
  · have h3' : j = 4 := by simp at h3; omega
    simp -implicitDefEqProofs only [h3, f18, f19, f20, f4, ws, ↓reduceIte, Nat.reduceEqDiff, Nat.reduceAdd, Nat.reduceLeDiff]
    subst h3'
    rw [← hx, List.drop_of_length_le (by omega)] at h
    exact .inl h
end Go.Proofs.YtgdcdkgmeomhpaaDoor

namespace Go.Proofs.YtgdcdkgmeomhpaaDoor
open Go Go.Vs
set_option maxRecDepth 20000
attribute [local irreducible] chooseK

/-- A byte of a list, as a number. -/
def bN (l : List UInt8) (i : Nat) : Nat := (l.getD i 0).toNat
theorem bN_lt (l : List UInt8) (i : Nat) : bN l i < 256 := (l.getD i 0).toNat_lt

/-- The rune at the head and its width. -/
def decS (l : List UInt8) : Nat × Nat := Lib.decodeN l.length (bN l 0) (bN l 1) (bN l 2) (bN l 3)

theorem gfirst : gfind Xc.G 4 = some (cells8 firstN) := by rw [XG]; rfl
theorem gaccept : gfind Xc.G 5 = some (cells8 acceptN) := by rw [XG]; rfl
theorem drop_at {l : List V} {n : Nat} {v : V} (h : l[n]? = some v) : List.drop n l = v :: List.drop (n + 1) l := by
  obtain ⟨h1, h2⟩ := List.getElem?_eq_some_iff.1 h
  rw [List.drop_eq_getElem_cons h1, h2]
theorem cells8_at {l : List Nat} {n v : Nat} (h : l[n]? = some v) : (cells8 l)[n]? = some (.int .u8 (v : Int)) := by
  show (l.map _)[n]? = _
  rw [List.getElem?_map, h]; rfl
theorem drop_first (c : UInt8) : List.drop (c.toNat * 1) (cells8 firstN) = .int .u8 (Lib.firstT c.toNat : Nat) :: List.drop (c.toNat + 1) (cells8 firstN) := by
  have := all_u8 (p := fun c => firstN[c.toNat]? == some (Lib.firstT c.toNat)) (by kernel_rfl) c
  rw [Nat.mul_one, drop_at (cells8_at (by simpa using this))]

theorem acc_idx (c : UInt8) : ((Lib.firstT c.toNat : Nat) : Int).fdiv (2 ^ min (Int.toNat 4) (IntKind.bits .u8)) = ((Lib.firstT c.toNat / 16 : Nat) : Int) := by
  have := all_u8 (p := fun c => decide (((Lib.firstT c.toNat : Nat) : Int).fdiv (2 ^ min (Int.toNat 4) (IntKind.bits .u8)) = ((Lib.firstT c.toNat / 16 : Nat) : Int))) (by kernel_rfl) c
  simpa using this
theorem acc_sz (c : UInt8) : IntKind.wrap .i64 (ibits .and .u8 ((Lib.firstT c.toNat : Nat) : Int) 7) = ((Lib.firstT c.toNat % 8 : Nat) : Int) := by
  have := all_u8 (p := fun c => decide (IntKind.wrap .i64 (ibits .and .u8 ((Lib.firstT c.toNat : Nat) : Int) 7) = ((Lib.firstT c.toNat % 8 : Nat) : Int))) (by kernel_rfl) c
  simpa using this
theorem drop_acc (c : UInt8) : List.drop (Lib.firstT c.toNat / 16 * 2) (cells8 acceptN) = .int .u8 (Lib.accLo (Lib.firstT c.toNat / 16) : Nat) :: .int .u8 (Lib.accHi (Lib.firstT c.toNat / 16) : Nat) :: List.drop (Lib.firstT c.toNat / 16 * 2 + 1 + 1) (cells8 acceptN) := by
  have := all_u8 (p := fun c => (acceptN[Lib.firstT c.toNat / 16 * 2]? == some (Lib.accLo (Lib.firstT c.toNat / 16))) && (acceptN[Lib.firstT c.toNat / 16 * 2 + 1]? == some (Lib.accHi (Lib.firstT c.toNat / 16)))) (by kernel_rfl) c
  simp only [Bool.and_eq_true, beq_iff_eq] at this
  rw [drop_at (cells8_at this.1), drop_at (cells8_at this.2)]
theorem first_max (c : UInt8) : Lib.firstT c.toNat ≤ 241 := by
  have := all_u8 (p := fun c => decide (Lib.firstT c.toNat ≤ 241)) (by kernel_rfl) c
  simpa using this
theorem high_rune (c : UInt8) (h : 240 ≤ Lib.firstT c.toNat) : ibits BinOp.or IntKind.i32
                    (ibits BinOp.andNot IntKind.i32 (IntKind.i32.wrap (c.toNat : Int))
                      ((IntKind.i32.wrap
                            (IntKind.i32.wrap ((Lib.firstT c.toNat : Nat) : Int) *
                              2 ^ min (Int.toNat 31) IntKind.i32.bits)).fdiv
                        (2 ^ min (Int.toNat 31) IntKind.i32.bits)))
                    (ibits BinOp.and IntKind.i32 65533
                      ((IntKind.i32.wrap
                            (IntKind.i32.wrap ((Lib.firstT c.toNat : Nat) : Int) *
                              2 ^ min (Int.toNat 31) IntKind.i32.bits)).fdiv
                        (2 ^ min (Int.toNat 31) IntKind.i32.bits))) = ((if Lib.firstT c.toNat = 240 then c.toNat else 65533 : Nat) : Int) := by
  have := all_u8 (p := fun c => !decide (240 ≤ Lib.firstT c.toNat) || decide (ibits BinOp.or IntKind.i32
                    (ibits BinOp.andNot IntKind.i32 (IntKind.i32.wrap (c.toNat : Int))
                      ((IntKind.i32.wrap
                            (IntKind.i32.wrap ((Lib.firstT c.toNat : Nat) : Int) *
                              2 ^ min (Int.toNat 31) IntKind.i32.bits)).fdiv
                        (2 ^ min (Int.toNat 31) IntKind.i32.bits)))
                    (ibits BinOp.and IntKind.i32 65533
                      ((IntKind.i32.wrap
                            (IntKind.i32.wrap ((Lib.firstT c.toNat : Nat) : Int) *
                              2 ^ min (Int.toNat 31) IntKind.i32.bits)).fdiv
                        (2 ^ min (Int.toNat 31) IntKind.i32.bits))) = ((if Lib.firstT c.toNat = 240 then c.toNat else 65533 : Nat) : Int))) (by kernel_rfl) c
  simpa [h] using this

theorem msk7 (l : List UInt8) (i : Nat) : IntKind.wrap .i32 (ibits .and .u8 ((bN l i : Nat) : Int) 7) = ((bN l i % 8 : Nat) : Int) := of_decide_eq_true (all_u8 (p := fun c => decide (IntKind.wrap .i32 (ibits .and .u8 ((c.toNat : Nat) : Int) 7) = ((c.toNat % 8 : Nat) : Int))) (by kernel_rfl) (l.getD i 0))
theorem msk15 (l : List UInt8) (i : Nat) : IntKind.wrap .i32 (ibits .and .u8 ((bN l i : Nat) : Int) 15) = ((bN l i % 16 : Nat) : Int) := of_decide_eq_true (all_u8 (p := fun c => decide (IntKind.wrap .i32 (ibits .and .u8 ((c.toNat : Nat) : Int) 15) = ((c.toNat % 16 : Nat) : Int))) (by kernel_rfl) (l.getD i 0))
theorem msk31 (l : List UInt8) (i : Nat) : IntKind.wrap .i32 (ibits .and .u8 ((bN l i : Nat) : Int) 31) = ((bN l i % 32 : Nat) : Int) := of_decide_eq_true (all_u8 (p := fun c => decide (IntKind.wrap .i32 (ibits .and .u8 ((c.toNat : Nat) : Int) 31) = ((c.toNat % 32 : Nat) : Int))) (by kernel_rfl) (l.getD i 0))
theorem msk63 (l : List UInt8) (i : Nat) : IntKind.wrap .i32 (ibits .and .u8 ((bN l i : Nat) : Int) 63) = ((bN l i % 64 : Nat) : Int) := of_decide_eq_true (all_u8 (p := fun c => decide (IntKind.wrap .i32 (ibits .and .u8 ((c.toNat : Nat) : Int) 63) = ((c.toNat % 64 : Nat) : Int))) (by kernel_rfl) (l.getD i 0))
theorem shm31_6 (l : List UInt8) (i : Nat) : IntKind.wrap .i32 (((bN l i % 32 : Nat) : Int) * 2 ^ min (Int.toNat 6) (IntKind.bits .i32)) = ((bN l i % 32 * 64 : Nat) : Int) := of_decide_eq_true (all_u8 (p := fun c => decide (IntKind.wrap .i32 (((c.toNat % 32 : Nat) : Int) * 2 ^ min (Int.toNat 6) (IntKind.bits .i32)) = ((c.toNat % 32 * 64 : Nat) : Int))) (by kernel_rfl) (l.getD i 0))
theorem shm15_12 (l : List UInt8) (i : Nat) : IntKind.wrap .i32 (((bN l i % 16 : Nat) : Int) * 2 ^ min (Int.toNat 12) (IntKind.bits .i32)) = ((bN l i % 16 * 4096 : Nat) : Int) := of_decide_eq_true (all_u8 (p := fun c => decide (IntKind.wrap .i32 (((c.toNat % 16 : Nat) : Int) * 2 ^ min (Int.toNat 12) (IntKind.bits .i32)) = ((c.toNat % 16 * 4096 : Nat) : Int))) (by kernel_rfl) (l.getD i 0))
theorem shm63_6 (l : List UInt8) (i : Nat) : IntKind.wrap .i32 (((bN l i % 64 : Nat) : Int) * 2 ^ min (Int.toNat 6) (IntKind.bits .i32)) = ((bN l i % 64 * 64 : Nat) : Int) := of_decide_eq_true (all_u8 (p := fun c => decide (IntKind.wrap .i32 (((c.toNat % 64 : Nat) : Int) * 2 ^ min (Int.toNat 6) (IntKind.bits .i32)) = ((c.toNat % 64 * 64 : Nat) : Int))) (by kernel_rfl) (l.getD i 0))
theorem shm7_18 (l : List UInt8) (i : Nat) : IntKind.wrap .i32 (((bN l i % 8 : Nat) : Int) * 2 ^ min (Int.toNat 18) (IntKind.bits .i32)) = ((bN l i % 8 * 262144 : Nat) : Int) := of_decide_eq_true (all_u8 (p := fun c => decide (IntKind.wrap .i32 (((c.toNat % 8 : Nat) : Int) * 2 ^ min (Int.toNat 18) (IntKind.bits .i32)) = ((c.toNat % 8 * 262144 : Nat) : Int))) (by kernel_rfl) (l.getD i 0))
theorem shm63_12 (l : List UInt8) (i : Nat) : IntKind.wrap .i32 (((bN l i % 64 : Nat) : Int) * 2 ^ min (Int.toNat 12) (IntKind.bits .i32)) = ((bN l i % 64 * 4096 : Nat) : Int) := of_decide_eq_true (all_u8 (p := fun c => decide (IntKind.wrap .i32 (((c.toNat % 64 : Nat) : Int) * 2 ^ min (Int.toNat 12) (IntKind.bits .i32)) = ((c.toNat % 64 * 4096 : Nat) : Int))) (by kernel_rfl) (l.getD i 0))
theorem orN {A B : Nat} (i : Nat) (hB : B < 2 ^ i) (hA : A % 2 ^ i = 0) (hlt : A + B < 2147483648) : ibits .or .i32 (A : Int) (B : Int) = ((A + B : Nat) : Int) := by
  have h1 : (BitVec.ofInt 32 (A : Int) ||| BitVec.ofInt 32 (B : Int)).toNat = A + B := by
    rw [BitVec.ofInt_natCast, BitVec.ofInt_natCast, BitVec.toNat_or, BitVec.toNat_ofNat, BitVec.toNat_ofNat, Nat.mod_eq_of_lt (by omega), Nat.mod_eq_of_lt (by omega)]
    have e : A = (A / 2 ^ i) <<< i := by
      rw [Nat.shiftLeft_eq]
      have := Nat.div_add_mod A (2 ^ i)
      rw [hA, Nat.mul_comm] at this
      omega
    have := Nat.shiftLeft_add_eq_or_of_lt hB (A / 2 ^ i)
    rw [← e] at this
    exact this.symm
  show IntKind.wrap .i32 ((BitVec.ofInt 32 (A : Int) ||| BitVec.ofInt 32 (B : Int)).toNat : Int) = _
  rw [h1, wrap32 (by omega)]

/-- Only objects were made, and none of them is told of. -/
theorem exitNew {σ : St} (hw : σ.wf) {xo : List (List V)} {xy : List TypeId} {Q : Out → St → Prop} {out : Out} (hc : out.clean σ.toks.length = out) (hf : out.fits σ.objs.length σ.maps.length σ.toks.length = true) (h : Q out σ) :
    ExitOk σ Q out ⟨σ.objs ++ xo, σ.maps, σ.toks, σ.tys ++ xy, σ.tts⟩ :=
  exitCutO rfl rfl rfl hw.1 hw.2 (by rw [hc]; exact hf) (fun o cs ho => .inl ho) (fun r es hr => .inl hr) (by rw [hc]; exact h)

theorem decodeSlow_C {s : List UInt8} {σ : St} {Q : Out → St → Prop} (hs : s ≠ []) (h : Q (.ret (.tup [.int .i32 ((decS s).1 : Int), .int .i64 ((decS s).2 : Int)])) σ) : C Xc 81 [.str s] σ Q := by
  have hl : 0 < s.length := List.length_pos_iff.2 hs
  refine bodyW cf_decodeRuneSlow (Eq.refl true) fun hw => ?_
  simp -implicitDefEqProofs only [vf_decodeRuneSlow, gfirst, drop_first, ws, ↓reduceIte, Nat.reduceEqDiff, Nat.reduceAdd, Nat.reduceLeDiff]
  refine chooseK_split (fun h1 => ?_) (fun h1 => ?_) <;> simp -implicitDefEqProofs only [h1, gfirst, drop_first, ws, ↓reduceIte, Nat.reduceEqDiff, Nat.reduceAdd, Nat.reduceLeDiff]
  · simp at h1; omega
  refine ⟨by omega, by have := (s.getD (Int.toNat 0) 0).toNat_lt; omega, ?_⟩
  have hc0 : (s.getD (Int.toNat 0) 0).toNat = bN s 0 := rfl
  refine chooseK_split (fun h2 => ?_) (fun h2 => ?_) <;> simp -implicitDefEqProofs only [h2, gaccept, acc_idx, acc_sz, drop_acc, app_get _ _ (Eq.refl σ.objs.length), ws, ↓reduceIte, Nat.reduceEqDiff, Nat.reduceAdd, Nat.reduceLeDiff]
  · have h2' : 240 ≤ Lib.firstT (s.getD (Int.toNat 0) 0).toNat := by simp only [ge_iff_le, decide_eq_true_eq] at h2; omega
    refine ⟨by omega, by omega, by omega, ?_⟩
    rw [high_rune _ h2']
    refine .inl ?_
    have hm := first_max (s.getD (Int.toNat 0) 0)
    have : decS s = (if Lib.firstT (bN s 0) = 240 then bN s 0 else 65533, 1) := by
      unfold decS
      split
      · rename_i h3; exact Lib.ascii_eq _ _ _ _ _ h3
      · rw [hc0] at h2' hm
        exact Lib.bad_eq _ _ _ _ _ (bN_lt s 0) (by omega)
    rw [this] at h
    exact h
  · have h2' : Lib.firstT (s.getD (Int.toNat 0) 0).toNat < 240 := by simp only [ge_iff_le, decide_eq_false_iff_not] at h2; omega
    have hsl : decS s = _ := (Lib.slow_eq s.length (bN s 0) (bN s 1) (bN s 2) (bN s 3) hl (bN_lt s 1) (bN_lt s 2) (bN_lt s 3) h2').symm
    have hc1 : (s.getD (Int.toNat 1) 0).toNat = bN s 1 := rfl
    have hc2 : (s.getD (Int.toNat 2) 0).toNat = bN s 2 := rfl
    have hc3 : (s.getD (Int.toNat 3) 0).toNat = bN s 3 := rfl
    rw [hc0] at h2' ⊢
    rw [hsl] at h
    have hx8 : Lib.firstT (bN s 0) % 8 ≤ 4 := by
      have := all_u8 (p := fun c => !(decide (Lib.firstT c.toNat < 240)) || decide (Lib.firstT c.toNat % 8 ≤ 4)) (by kernel_rfl) (s.getD 0 0)
      rw [show (s.getD 0 0).toNat = bN s 0 from rfl, decide_eq_true h2'] at this
      simpa using this
    have hx2 : 2 ≤ Lib.firstT (bN s 0) % 8 := by
      have := all_u8 (p := fun c => !(decide (Lib.firstT c.toNat < 240)) || decide (2 ≤ Lib.firstT c.toNat % 8)) (by kernel_rfl) (s.getD 0 0)
      rw [show (s.getD 0 0).toNat = bN s 0 from rfl, decide_eq_true h2'] at this
      simpa using this
    generalize Lib.firstT (bN s 0) = x at h h2' hx8 hx2 ⊢
    generalize hL : x % 8 = z at h hx8 hx2 ⊢
    generalize Lib.accLo (x / 16) = lo at h ⊢
    generalize Lib.accHi (x / 16) = hi at h ⊢
    refine ⟨by omega, by omega, ?_⟩
    refine chooseK_split (fun h3 => ?_) (fun h3 => ?_) <;> simp -implicitDefEqProofs only [h3, app_get _ _ (Eq.refl σ.objs.length), app_set _ _ _ (Eq.refl σ.objs.length), hc0, hc1, hc2, hc3, ws, ↓reduceIte, Nat.reduceEqDiff, Nat.reduceAdd, Nat.reduceLeDiff]
    · refine exitNew hw (by rfl) (by rfl) ?_
      simp at h3
      rw [Lib.slowN, if_pos h3] at h
      exact h
    simp at h3
    rw [Lib.slowN, if_neg (by omega)] at h
    refine ⟨by omega, ?_⟩
    have bad1 : ((bN s 1 < lo ∨ hi < bN s 1) → Q (.ret (.tup [.int .i32 65533, .int .i64 1])) σ) := fun hb => by
      rw [if_pos hb] at h; exact h
    refine chooseK_split (fun h4 => ?_) (fun h4 => ?_) <;> simp -implicitDefEqProofs only [h4, app_get _ _ (Eq.refl σ.objs.length), app_set _ _ _ (Eq.refl σ.objs.length), hc0, hc1, hc2, hc3, ws, ↓reduceIte, Nat.reduceEqDiff, Nat.reduceAdd, Nat.reduceLeDiff]
    · exact exitNew hw (by rfl) (by rfl) (bad1 (.inl (by simpa using h4)))
    refine chooseK_split (fun h5 => ?_) (fun h5 => ?_) <;> simp -implicitDefEqProofs only [h5, app_get _ _ (Eq.refl σ.objs.length), app_set _ _ _ (Eq.refl σ.objs.length), hc0, hc1, hc2, hc3, ws, ↓reduceIte, Nat.reduceEqDiff, Nat.reduceAdd, Nat.reduceLeDiff]
    · exact exitNew hw (by rfl) (by rfl) (bad1 (.inr (by simpa using h5)))
    simp at h4 h5
    rw [if_neg (by omega)] at h
    refine chooseK_split (fun h6 => ?_) (fun h6 => ?_) <;> simp -implicitDefEqProofs only [h6, app_get _ _ (Eq.refl σ.objs.length), app_set _ _ _ (Eq.refl σ.objs.length), hc0, hc1, hc2, hc3, ws, ↓reduceIte, Nat.reduceEqDiff, Nat.reduceAdd, Nat.reduceLeDiff]
    · simp at h6
      rw [if_pos (by omega)] at h
      rw [msk31, msk63, shm31_6, orN 6 (by omega) (by omega) (by omega)]
      exact ⟨by omega, exitNew hw (by rfl) (by rfl) h⟩
    simp at h6
    rw [if_neg (by omega)] at h
    refine ⟨by omega, ?_⟩
    have bad2 : ((bN s 2 < 128 ∨ 191 < bN s 2) → Q (.ret (.tup [.int .i32 65533, .int .i64 1])) σ) := fun hb => by
      rw [if_pos hb] at h; exact h
    refine chooseK_split (fun h7 => ?_) (fun h7 => ?_) <;> simp -implicitDefEqProofs only [h7, app_get _ _ (Eq.refl σ.objs.length), app_set _ _ _ (Eq.refl σ.objs.length), hc0, hc1, hc2, hc3, ws, ↓reduceIte, Nat.reduceEqDiff, Nat.reduceAdd, Nat.reduceLeDiff]
    · exact exitNew hw (by rfl) (by rfl) (bad2 (.inl (by simp at h7; omega)))
    refine chooseK_split (fun h8 => ?_) (fun h8 => ?_) <;> simp -implicitDefEqProofs only [h8, app_get _ _ (Eq.refl σ.objs.length), app_set _ _ _ (Eq.refl σ.objs.length), hc0, hc1, hc2, hc3, ws, ↓reduceIte, Nat.reduceEqDiff, Nat.reduceAdd, Nat.reduceLeDiff]
    · exact exitNew hw (by rfl) (by rfl) (bad2 (.inr (by simp at h8; omega)))
    simp at h7 h8
    rw [if_neg (by omega)] at h
    refine chooseK_split (fun h9 => ?_) (fun h9 => ?_) <;> simp -implicitDefEqProofs only [h9, app_get _ _ (Eq.refl σ.objs.length), app_set _ _ _ (Eq.refl σ.objs.length), hc0, hc1, hc2, hc3, ws, ↓reduceIte, Nat.reduceEqDiff, Nat.reduceAdd, Nat.reduceLeDiff]
    · simp at h9
      rw [if_pos (by omega)] at h
      rw [msk15, msk63, msk63, shm15_12, shm63_6, orN 12 (by omega) (by omega) (by omega), orN 6 (by omega) (by omega) (by omega)]
      exact ⟨by omega, by omega, exitNew hw (by rfl) (by rfl) h⟩
    simp at h9
    rw [if_neg (by omega)] at h
    refine ⟨by omega, ?_⟩
    have bad3 : ((bN s 3 < 128 ∨ 191 < bN s 3) → Q (.ret (.tup [.int .i32 65533, .int .i64 1])) σ) := fun hb => by
      rw [if_pos hb] at h; exact h
    refine chooseK_split (fun h10 => ?_) (fun h10 => ?_) <;> simp -implicitDefEqProofs only [h10, app_get _ _ (Eq.refl σ.objs.length), app_set _ _ _ (Eq.refl σ.objs.length), hc0, hc1, hc2, hc3, ws, ↓reduceIte, Nat.reduceEqDiff, Nat.reduceAdd, Nat.reduceLeDiff]
    · exact exitNew hw (by rfl) (by rfl) (bad3 (.inl (by simp at h10; omega)))
    refine chooseK_split (fun h11 => ?_) (fun h11 => ?_) <;> simp -implicitDefEqProofs only [h11, app_get _ _ (Eq.refl σ.objs.length), app_set _ _ _ (Eq.refl σ.objs.length), hc0, hc1, hc2, hc3, ws, ↓reduceIte, Nat.reduceEqDiff, Nat.reduceAdd, Nat.reduceLeDiff]
    · exact exitNew hw (by rfl) (by rfl) (bad3 (.inr (by simp at h11; omega)))
    simp at h10 h11
    rw [if_neg (by omega)] at h
    rw [msk7, msk63, msk63, msk63, shm7_18, shm63_12, shm63_6, orN 18 (by omega) (by omega) (by omega), orN 12 (by omega) (by omega) (by omega), orN 6 (by omega) (by omega) (by omega)]
    exact ⟨by omega, by omega, by omega, exitNew hw (by rfl) (by rfl) h⟩

theorem decodeRune_C {s : List UInt8} {σ : St} {Q : Out → St → Prop} (hs : s ≠ []) (h : Q (.ret (.tup [.int .i32 ((decS s).1 : Int), .int .i64 ((decS s).2 : Int)])) σ) : C Xc 71 [.str s] σ Q := by
  have hl : 0 < s.length := List.length_pos_iff.2 hs
  have hb : (s == []) = false := by simpa using hs
  have hn : (s != []) = true := by simpa using hs
  refine body cf_decodeRune (Eq.refl true) ?_
  simp -implicitDefEqProofs only [vf_decodeRune, hb, hn, ws, ↓reduceIte, Nat.reduceEqDiff, Nat.reduceAdd, Nat.reduceLeDiff]
  refine ⟨by omega, ?_⟩
  have hc0 : (s.getD (Int.toNat 0) 0).toNat = bN s 0 := rfl
  refine chooseK_split (fun h1 => ?_) (fun h1 => ?_) <;> simp -implicitDefEqProofs only [h1, hc0, ws, ↓reduceIte, Nat.reduceEqDiff, Nat.reduceAdd, Nat.reduceLeDiff]
  · have h1' : bN s 0 < 128 := by simp only [hc0, decide_eq_true_eq] at h1; omega
    refine ⟨by omega, .inl ?_⟩
    have : decS s = (bN s 0, 1) := by simp [decS, Lib.decodeN, h1']
    rw [this] at h
    rw [wrap32 (by omega)]
    exact h
  · refine decodeSlow_C hs ?_
    simp -implicitDefEqProofs only [ws, ↓reduceIte, Nat.reduceEqDiff, Nat.reduceAdd, Nat.reduceLeDiff]
    exact .inl h

/-- The rune at the head and its width; (0, 0) where there is none. -/
def decT (l : List UInt8) : Nat × Nat := if l = [] then (0, 0) else if decS l = (65533, 1) then (0, 0) else decS l

theorem decode_C {s : List UInt8} {i : Int} {σ : St} {Q : Out → St → Prop} (hi : 0 ≤ i) (hs : s.length ≤ big) (h : Q (.ret (.tup [.int .i32 ((decT (s.drop i.toNat)).1 : Int), .int .i64 ((decT (s.drop i.toNat)).2 : Int)])) σ) : C Xc 59 [.str s, .int .i64 i] σ Q := by
  refine body cf_decode (Eq.refl true) ?_
  simp -implicitDefEqProofs only [vf_decode, ws, ↓reduceIte, Nat.reduceEqDiff, Nat.reduceAdd, Nat.reduceLeDiff]
  have h0 : decide (i < 0) = false := by simpa using hi
  simp -implicitDefEqProofs only [h0, ws, ↓reduceIte, Nat.reduceEqDiff, Nat.reduceAdd, Nat.reduceLeDiff]
  refine chooseK_split (fun h1 => ?_) (fun h1 => ?_) <;> simp -implicitDefEqProofs only [h1, ws, ↓reduceIte, Nat.reduceEqDiff, Nat.reduceAdd, Nat.reduceLeDiff]
  · have : s.drop i.toNat = [] := by rw [List.drop_eq_nil_iff]; simp at h1; omega
    rw [decT, if_pos this] at h
    exact .inl h
  have h1' : i.toNat < s.length := by simp at h1; omega
  refine ⟨by omega, ?_⟩
  simp -implicitDefEqProofs only [cut_drop, ws, ↓reduceIte, Nat.reduceEqDiff, Nat.reduceAdd, Nat.reduceLeDiff]
  have hne : s.drop i.toNat ≠ [] := by rw [Ne, List.drop_eq_nil_iff]; omega
  refine decodeRune_C hne ?_
  simp -implicitDefEqProofs only [ws, ↓reduceIte, Nat.reduceEqDiff, Nat.reduceAdd, Nat.reduceLeDiff]
  rw [decT, if_neg hne] at h
  refine chooseK_split (fun h2 => ?_) (fun h2 => ?_) <;> simp -implicitDefEqProofs only [h2, ws, ↓reduceIte, Nat.reduceEqDiff, Nat.reduceAdd, Nat.reduceLeDiff]
  · refine chooseK_split (fun h3 => ?_) (fun h3 => ?_) <;> simp -implicitDefEqProofs only [h3, ws, ↓reduceIte, Nat.reduceEqDiff, Nat.reduceAdd, Nat.reduceLeDiff]
    · rw [if_pos (Prod.ext (by simp at h2; omega) (by simp at h3; omega))] at h
      exact .inl h
    · rw [if_neg (fun e => by rw [e] at h3; simp at h3)] at h
      exact .inl h
  · rw [if_neg (fun e => by rw [e] at h2; simp at h2)] at h
    exact .inl h
end Go.Proofs.YtgdcdkgmeomhpaaDoor

namespace Go.Proofs.YtgdcdkgmeomhpaaDoor
open Go Go.Vs
set_option maxRecDepth 20000
attribute [local irreducible] chooseK

/-- The byte that a letter stands for. -/
def letV (c : Nat) : Option Nat := if c = 98 then some 8 else if c = 102 then some 12 else if c = 110 then some 10 else if c = 114 then some 13 else if c = 116 then some 9 else none

/-- The rune of an escape sequence and its length; (0, 0) where it is none. -/
def seqS (s : List UInt8) : Nat × Nat :=
  if bN s 1 = 34 ∨ bN s 1 = 92 ∨ bN s 1 = 47 then (bN s 1, 2)
  else match letV (bN s 1) with
    | some v => (v, 2)
    | none => match unitS s with
      | none => (0, 0)
      | some r => if 56320 ≤ r ∧ r ≤ 57343 then (0, 0) else if r < 55296 ∨ 57343 < r then (r, 6)
        else match unitS (s.drop 6) with
          | none => (0, 0)
          | some l => if l < 56320 ∨ 57343 < l then (0, 0) else ((r - 55296) * 1024 + (l - 56320) + 65536, 12)

theorem hexF_lt : ∀ (l : List UInt8) (a n : Nat), hexF l a = some n → n < (a + 1) * 16 ^ l.length
  | [], a, n, h => by simp only [hexF, Option.some.injEq] at h; subst h; simp
  | c :: r, a, n, h => by
    simp only [hexF] at h
    split at h
    · rename_i d hd
      have h1 := hexF_lt r _ n h
      have h2 := hexV_lt hd
      have : (a * 16 + d + 1) * 16 ^ r.length ≤ ((a + 1) * 16) * 16 ^ r.length := Nat.mul_le_mul_right _ (by omega)
      rw [List.length_cons, Nat.pow_succ, Nat.mul_comm (16 ^ r.length) 16, ← Nat.mul_assoc]
      omega
    · cases h
theorem unitS_lt {s : List UInt8} {n : Nat} (h : unitS s = some n) : n < 65536 := by
  unfold unitS at h
  split at h
  · rename_i hs
    have h1 := hexF_lt _ _ _ h
    have h2 : ((s.drop 2).take 4).length = 4 := by simp; omega
    rw [h2] at h1
    omega
  · cases h
theorem unitS_len {s : List UInt8} {n : Nat} (h : unitS s = some n) : 6 ≤ s.length := by
  unfold unitS at h
  split at h
  · rename_i hs; exact hs.1
  · cases h

theorem wrap32z {n : Int} (h : -2147483648 ≤ n ∧ n ≤ 2147483647) : IntKind.wrap .i32 n = n := by
  simp only [IntKind.wrap, IntKind.bits, IntKind.signed, Bool.true_and]
  split <;> simp_all <;> omega

theorem gletters : gfind Xc.G 1 = some (cells8 lettersN) := by rw [XG]; rfl
theorem lcells : cells8 lettersN = [.int .u8 98, .int .u8 8, .int .u8 102, .int .u8 12, .int .u8 110, .int .u8 10, .int .u8 114, .int .u8 13, .int .u8 116, .int .u8 9] := rfl

theorem seq_C {s : List UInt8} {σ : St} {Q : Out → St → Prop} (hl : 2 ≤ s.length) (hs : s.length ≤ big) (h : Q (.ret (.tup [.int .i32 ((seqS s).1 : Int), .int .i64 ((seqS s).2 : Int)])) σ) : C Xc 60 [.str s] σ Q := by
  refine bodyW cf_jsSequence (Eq.refl true) fun hw => ?_
  have hc1 : (s.getD (Int.toNat 1) 0).toNat = bN s 1 := rfl
  have hb1 := bN_lt s 1
  simp -implicitDefEqProofs only [vf_jsSequence, hc1, ws, ↓reduceIte, Nat.reduceEqDiff, Nat.reduceAdd, Nat.reduceLeDiff]
  refine ⟨by omega, ?_⟩
  have q : (bN s 1 = 34 ∨ bN s 1 = 92 ∨ bN s 1 = 47) → Q (.ret (.tup [.int .i32 (IntKind.wrap .i32 (bN s 1 : Int)), .int .i64 2])) σ := fun hq => by
    rw [seqS, if_pos hq] at h
    rw [wrap32 (by omega)]
    exact h
  refine chooseK_split (fun h1 => ?_) (fun h1 => ?_) <;> simp -implicitDefEqProofs only [h1, ws, ↓reduceIte, Nat.reduceEqDiff, Nat.reduceAdd, Nat.reduceLeDiff]
  · exact .inl (q (.inl (by simp at h1; omega)))
  refine chooseK_split (fun h2 => ?_) (fun h2 => ?_) <;> simp -implicitDefEqProofs only [h2, ws, ↓reduceIte, Nat.reduceEqDiff, Nat.reduceAdd, Nat.reduceLeDiff]
  · exact .inl (q (.inr (.inl (by simp at h2; omega))))
  refine chooseK_split (fun h3 => ?_) (fun h3 => ?_) <;> simp -implicitDefEqProofs only [h3, ws, ↓reduceIte, Nat.reduceEqDiff, Nat.reduceAdd, Nat.reduceLeDiff]
  · exact .inl (q (.inr (.inr (by simp at h3; omega))))
  have hq : ¬ (bN s 1 = 34 ∨ bN s 1 = 92 ∨ bN s 1 = 47) := by simp at h1 h2 h3; omega
  rw [seqS, if_neg hq] at h
  clear q hq
  simp -implicitDefEqProofs only [gletters, lcells, ws, ↓reduceIte, Nat.reduceEqDiff, Nat.reduceAdd, Nat.reduceLeDiff]
  refine LoopP.intro (fun n fr σ' => ∃ (j : Nat) (xs : List (List V)) (ys : List TypeId), j ≤ 5 ∧ n = 5 - j ∧ (∀ i, i < j → lettersN.getD (2 * i) 0 ≠ bN s 1) ∧ fr 0 = .str s ∧ fr 4 = .int .u8 (bN s 1 : Int) ∧ fr 24 = .agg [.int .u8 98, .int .u8 8, .int .u8 102, .int .u8 12, .int .u8 110, .int .u8 10, .int .u8 114, .int .u8 13, .int .u8 116, .int .u8 9] ∧ fr 25 = .int .i64 (j : Int) ∧ σ' = ⟨σ.objs ++ xs, σ.maps, σ.toks, σ.tys ++ ys, σ.tts⟩) 5
    ⟨0, [], [], by omega, rfl, fun i hi => by omega, by simp -implicitDefEqProofs only [ws, ↓reduceIte, Nat.reduceEqDiff, Nat.reduceAdd, Nat.reduceLeDiff], by simp -implicitDefEqProofs only [ws, ↓reduceIte, Nat.reduceEqDiff, Nat.reduceAdd, Nat.reduceLeDiff], by simp -implicitDefEqProofs only [ws, ↓reduceIte, Nat.reduceEqDiff, Nat.reduceAdd, Nat.reduceLeDiff], by simp -implicitDefEqProofs only [ws, ↓reduceIte, Nat.reduceEqDiff, Nat.reduceAdd, Nat.reduceLeDiff]; rfl, by simp⟩ ?_
  rintro n fr σ' ⟨j, xs, ys, hj, rfl, hno, f0, f4, f24, f25, rfl⟩
  have hxl : (σ.objs ++ xs).length = σ.objs.length + xs.length := List.length_append
  have hj' : j = 0 ∨ j = 1 ∨ j = 2 ∨ j = 3 ∨ j = 4 ∨ j = 5 := by omega
  rcases hj' with rfl | rfl | rfl | rfl | rfl | rfl
  · have f25' : fr 25 = .int .i64 0 := f25
    have n1 : decide ((0 : Int) < 5) = true := rfl
    have n2 : Int.toNat 0 * 2 = 0 := rfl
    have n3 : Int.toNat 0 = 0 := rfl
    have n4 : Int.toNat 1 = 1 := rfl
    simp -implicitDefEqProofs only [f0, f4, f24, f25', n1, n2, n3, n4, app_get _ _ hxl, app_set _ _ _ hxl, Nat.zero_mul, Nat.one_mul, ws, ↓reduceIte, Nat.reduceEqDiff, Nat.reduceAdd, Nat.reduceLeDiff]
    refine ⟨by omega, by omega, ?_⟩
    refine chooseK_split (fun g => ?_) (fun g => ?_) <;> simp -implicitDefEqProofs only [g, f0, f4, f24, f25', n1, n2, n3, n4, app_get _ _ hxl, app_set _ _ _ hxl, Nat.zero_mul, Nat.one_mul, ws, ↓reduceIte, Nat.reduceEqDiff, Nat.reduceAdd, Nat.reduceLeDiff]
    · have hb : bN s 1 = 98 := by simp at g; omega
      rw [show letV (bN s 1) = some 8 from by rw [hb]; rfl] at h
      rw [List.append_assoc, List.append_assoc]
      exact ⟨by omega, exitNew hw (by rfl) (by rfl) h⟩
    · have hb : bN s 1 ≠ 98 := by simp at g; omega
      refine ⟨5 - 1, by omega, 1, xs ++ [_], ys ++ [_], by omega, rfl, fun i hi => ?_, by simp -implicitDefEqProofs only [f0, ws, ↓reduceIte, Nat.reduceEqDiff, Nat.reduceAdd, Nat.reduceLeDiff], by simp -implicitDefEqProofs only [f4, ws, ↓reduceIte, Nat.reduceEqDiff, Nat.reduceAdd, Nat.reduceLeDiff], by simp -implicitDefEqProofs only [f24, ws, ↓reduceIte, Nat.reduceEqDiff, Nat.reduceAdd, Nat.reduceLeDiff], by simp -implicitDefEqProofs only [f25', ws, ↓reduceIte, Nat.reduceEqDiff, Nat.reduceAdd, Nat.reduceLeDiff]; rfl, by rw [List.append_assoc, List.append_assoc]⟩
      by_cases e : i = 0
      · subst e; exact fun hh => hb (hh.symm)
      · exact hno i (by omega)
  · have f25' : fr 25 = .int .i64 1 := f25
    have n1 : decide ((1 : Int) < 5) = true := rfl
    have n2 : Int.toNat 1 * 2 = 2 := rfl
    have n3 : Int.toNat 0 = 0 := rfl
    have n4 : Int.toNat 1 = 1 := rfl
    simp -implicitDefEqProofs only [f0, f4, f24, f25', n1, n2, n3, n4, app_get _ _ hxl, app_set _ _ _ hxl, Nat.zero_mul, Nat.one_mul, ws, ↓reduceIte, Nat.reduceEqDiff, Nat.reduceAdd, Nat.reduceLeDiff]
    refine ⟨by omega, by omega, ?_⟩
    refine chooseK_split (fun g => ?_) (fun g => ?_) <;> simp -implicitDefEqProofs only [g, f0, f4, f24, f25', n1, n2, n3, n4, app_get _ _ hxl, app_set _ _ _ hxl, Nat.zero_mul, Nat.one_mul, ws, ↓reduceIte, Nat.reduceEqDiff, Nat.reduceAdd, Nat.reduceLeDiff]
    · have hb : bN s 1 = 102 := by simp at g; omega
      rw [show letV (bN s 1) = some 12 from by rw [hb]; rfl] at h
      rw [List.append_assoc, List.append_assoc]
      exact ⟨by omega, exitNew hw (by rfl) (by rfl) h⟩
    · have hb : bN s 1 ≠ 102 := by simp at g; omega
      refine ⟨5 - 2, by omega, 2, xs ++ [_], ys ++ [_], by omega, rfl, fun i hi => ?_, by simp -implicitDefEqProofs only [f0, ws, ↓reduceIte, Nat.reduceEqDiff, Nat.reduceAdd, Nat.reduceLeDiff], by simp -implicitDefEqProofs only [f4, ws, ↓reduceIte, Nat.reduceEqDiff, Nat.reduceAdd, Nat.reduceLeDiff], by simp -implicitDefEqProofs only [f24, ws, ↓reduceIte, Nat.reduceEqDiff, Nat.reduceAdd, Nat.reduceLeDiff], by simp -implicitDefEqProofs only [f25', ws, ↓reduceIte, Nat.reduceEqDiff, Nat.reduceAdd, Nat.reduceLeDiff]; rfl, by rw [List.append_assoc, List.append_assoc]⟩
      by_cases e : i = 1
      · subst e; exact fun hh => hb (hh.symm)
      · exact hno i (by omega)
  · have f25' : fr 25 = .int .i64 2 := f25
    have n1 : decide ((2 : Int) < 5) = true := rfl
    have n2 : Int.toNat 2 * 2 = 4 := rfl
    have n3 : Int.toNat 0 = 0 := rfl
    have n4 : Int.toNat 1 = 1 := rfl
    simp -implicitDefEqProofs only [f0, f4, f24, f25', n1, n2, n3, n4, app_get _ _ hxl, app_set _ _ _ hxl, Nat.zero_mul, Nat.one_mul, ws, ↓reduceIte, Nat.reduceEqDiff, Nat.reduceAdd, Nat.reduceLeDiff]
    refine ⟨by omega, by omega, ?_⟩
    refine chooseK_split (fun g => ?_) (fun g => ?_) <;> simp -implicitDefEqProofs only [g, f0, f4, f24, f25', n1, n2, n3, n4, app_get _ _ hxl, app_set _ _ _ hxl, Nat.zero_mul, Nat.one_mul, ws, ↓reduceIte, Nat.reduceEqDiff, Nat.reduceAdd, Nat.reduceLeDiff]
    · have hb : bN s 1 = 110 := by simp at g; omega
      rw [show letV (bN s 1) = some 10 from by rw [hb]; rfl] at h
      rw [List.append_assoc, List.append_assoc]
      exact ⟨by omega, exitNew hw (by rfl) (by rfl) h⟩
    · have hb : bN s 1 ≠ 110 := by simp at g; omega
      refine ⟨5 - 3, by omega, 3, xs ++ [_], ys ++ [_], by omega, rfl, fun i hi => ?_, by simp -implicitDefEqProofs only [f0, ws, ↓reduceIte, Nat.reduceEqDiff, Nat.reduceAdd, Nat.reduceLeDiff], by simp -implicitDefEqProofs only [f4, ws, ↓reduceIte, Nat.reduceEqDiff, Nat.reduceAdd, Nat.reduceLeDiff], by simp -implicitDefEqProofs only [f24, ws, ↓reduceIte, Nat.reduceEqDiff, Nat.reduceAdd, Nat.reduceLeDiff], by simp -implicitDefEqProofs only [f25', ws, ↓reduceIte, Nat.reduceEqDiff, Nat.reduceAdd, Nat.reduceLeDiff]; rfl, by rw [List.append_assoc, List.append_assoc]⟩
      by_cases e : i = 2
      · subst e; exact fun hh => hb (hh.symm)
      · exact hno i (by omega)
  · have f25' : fr 25 = .int .i64 3 := f25
    have n1 : decide ((3 : Int) < 5) = true := rfl
    have n2 : Int.toNat 3 * 2 = 6 := rfl
    have n3 : Int.toNat 0 = 0 := rfl
    have n4 : Int.toNat 1 = 1 := rfl
    simp -implicitDefEqProofs only [f0, f4, f24, f25', n1, n2, n3, n4, app_get _ _ hxl, app_set _ _ _ hxl, Nat.zero_mul, Nat.one_mul, ws, ↓reduceIte, Nat.reduceEqDiff, Nat.reduceAdd, Nat.reduceLeDiff]
    refine ⟨by omega, by omega, ?_⟩
    refine chooseK_split (fun g => ?_) (fun g => ?_) <;> simp -implicitDefEqProofs only [g, f0, f4, f24, f25', n1, n2, n3, n4, app_get _ _ hxl, app_set _ _ _ hxl, Nat.zero_mul, Nat.one_mul, ws, ↓reduceIte, Nat.reduceEqDiff, Nat.reduceAdd, Nat.reduceLeDiff]
    · have hb : bN s 1 = 114 := by simp at g; omega
      rw [show letV (bN s 1) = some 13 from by rw [hb]; rfl] at h
      rw [List.append_assoc, List.append_assoc]
      exact ⟨by omega, exitNew hw (by rfl) (by rfl) h⟩
    · have hb : bN s 1 ≠ 114 := by simp at g; omega
      refine ⟨5 - 4, by omega, 4, xs ++ [_], ys ++ [_], by omega, rfl, fun i hi => ?_, by simp -implicitDefEqProofs only [f0, ws, ↓reduceIte, Nat.reduceEqDiff, Nat.reduceAdd, Nat.reduceLeDiff], by simp -implicitDefEqProofs only [f4, ws, ↓reduceIte, Nat.reduceEqDiff, Nat.reduceAdd, Nat.reduceLeDiff], by simp -implicitDefEqProofs only [f24, ws, ↓reduceIte, Nat.reduceEqDiff, Nat.reduceAdd, Nat.reduceLeDiff], by simp -implicitDefEqProofs only [f25', ws, ↓reduceIte, Nat.reduceEqDiff, Nat.reduceAdd, Nat.reduceLeDiff]; rfl, by rw [List.append_assoc, List.append_assoc]⟩
      by_cases e : i = 3
      · subst e; exact fun hh => hb (hh.symm)
      · exact hno i (by omega)
  · have f25' : fr 25 = .int .i64 4 := f25
    have n1 : decide ((4 : Int) < 5) = true := rfl
    have n2 : Int.toNat 4 * 2 = 8 := rfl
    have n3 : Int.toNat 0 = 0 := rfl
    have n4 : Int.toNat 1 = 1 := rfl
    simp -implicitDefEqProofs only [f0, f4, f24, f25', n1, n2, n3, n4, app_get _ _ hxl, app_set _ _ _ hxl, Nat.zero_mul, Nat.one_mul, ws, ↓reduceIte, Nat.reduceEqDiff, Nat.reduceAdd, Nat.reduceLeDiff]
    refine ⟨by omega, by omega, ?_⟩
    refine chooseK_split (fun g => ?_) (fun g => ?_) <;> simp -implicitDefEqProofs only [g, f0, f4, f24, f25', n1, n2, n3, n4, app_get _ _ hxl, app_set _ _ _ hxl, Nat.zero_mul, Nat.one_mul, ws, ↓reduceIte, Nat.reduceEqDiff, Nat.reduceAdd, Nat.reduceLeDiff]
    · have hb : bN s 1 = 116 := by simp at g; omega
      rw [show letV (bN s 1) = some 9 from by rw [hb]; rfl] at h
      rw [List.append_assoc, List.append_assoc]
      exact ⟨by omega, exitNew hw (by rfl) (by rfl) h⟩
    · have hb : bN s 1 ≠ 116 := by simp at g; omega
      refine ⟨5 - 5, by omega, 5, xs ++ [_], ys ++ [_], by omega, rfl, fun i hi => ?_, by simp -implicitDefEqProofs only [f0, ws, ↓reduceIte, Nat.reduceEqDiff, Nat.reduceAdd, Nat.reduceLeDiff], by simp -implicitDefEqProofs only [f4, ws, ↓reduceIte, Nat.reduceEqDiff, Nat.reduceAdd, Nat.reduceLeDiff], by simp -implicitDefEqProofs only [f24, ws, ↓reduceIte, Nat.reduceEqDiff, Nat.reduceAdd, Nat.reduceLeDiff], by simp -implicitDefEqProofs only [f25', ws, ↓reduceIte, Nat.reduceEqDiff, Nat.reduceAdd, Nat.reduceLeDiff]; rfl, by rw [List.append_assoc, List.append_assoc]⟩
      by_cases e : i = 4
      · subst e; exact fun hh => hb (hh.symm)
      · exact hno i (by omega)
  · have f25' : fr 25 = .int .i64 5 := f25
    have n1 : decide ((5 : Int) < 5) = false := rfl
    have hlv : letV (bN s 1) = none := by
      have a0 := hno 0 (by omega)
      have a1 := hno 1 (by omega)
      have a2 := hno 2 (by omega)
      have a3 := hno 3 (by omega)
      have a4 := hno 4 (by omega)
      simp only [lettersN, Nat.mul_zero, Nat.reduceMul, List.getD_cons_zero, List.getD_cons_succ, ne_eq] at a0 a1 a2 a3 a4
      simp only [letV]
      split
      · omega
      split
      · omega
      split
      · omega
      split
      · omega
      split
      · omega
      rfl
    rw [hlv] at h
    simp -implicitDefEqProofs only [f0, f4, f24, f25', n1, ws, ↓reduceIte, Nat.reduceEqDiff, Nat.reduceAdd, Nat.reduceLeDiff]
    refine unit_C ?_
    cases hu : unitS s with
    | none =>
      rw [hu] at h
      simp -implicitDefEqProofs only [ws, ↓reduceIte, Nat.reduceEqDiff, Nat.reduceAdd, Nat.reduceLeDiff]
      exact exitNew hw (by rfl) (by rfl) h
    | some r =>
      have hr := unitS_lt hu
      have h6 := unitS_len hu
      rw [hu] at h
      have hcase : r < 55296 ∨ (55296 ≤ r ∧ r < 56320) ∨ (56320 ≤ r ∧ r ≤ 57343) ∨ 57343 < r := by omega
      rcases hcase with hc | hc | hc | hc
      · skip
        have e1 : decide ((r : Int) ≥ 56320) = false := decide_eq_false (by omega)
        have e2 : decide ((r : Int) ≤ 57343) = true := decide_eq_true (by omega)
        have e3 : decide ((r : Int) < 55296) = true := decide_eq_true (by omega)
        have e4 : decide ((r : Int) > 57343) = false := decide_eq_false (by omega)
        simp -implicitDefEqProofs only [e1, e2, e3, e4, f0, ws, ↓reduceIte, Nat.reduceEqDiff, Nat.reduceAdd, Nat.reduceLeDiff]
        refine exitNew hw (by rfl) (by rfl) ?_
        simpa [if_neg (show ¬ (56320 ≤ r ∧ r ≤ 57343) by omega), if_pos (show r < 55296 ∨ 57343 < r by omega)] using h
      · skip
        have e1 : decide ((r : Int) ≥ 56320) = false := decide_eq_false (by omega)
        have e2 : decide ((r : Int) ≤ 57343) = true := decide_eq_true (by omega)
        have e3 : decide ((r : Int) < 55296) = false := decide_eq_false (by omega)
        have e4 : decide ((r : Int) > 57343) = false := decide_eq_false (by omega)
        simp -implicitDefEqProofs only [e1, e2, e3, e4, f0, ws, ↓reduceIte, Nat.reduceEqDiff, Nat.reduceAdd, Nat.reduceLeDiff]
        refine ⟨by omega, ?_⟩
        rw [cut_drop, show Int.toNat 6 = 6 from rfl]
        refine unit_C ?_
        simp only [if_neg (show ¬ (56320 ≤ r ∧ r ≤ 57343) by omega), if_neg (show ¬ (r < 55296 ∨ 57343 < r) by omega)] at h
        cases hv : unitS (s.drop 6) with
        | none =>
          rw [hv] at h
          simp -implicitDefEqProofs only [ws, ↓reduceIte, Nat.reduceEqDiff, Nat.reduceAdd, Nat.reduceLeDiff]
          exact exitNew hw (by rfl) (by rfl) h
        | some l =>
          have hl' := unitS_lt hv
          rw [hv] at h
          simp -implicitDefEqProofs only [ws, ↓reduceIte, Nat.reduceEqDiff, Nat.reduceAdd, Nat.reduceLeDiff]
          refine chooseK_split (fun g1 => ?_) (fun g1 => ?_) <;> simp -implicitDefEqProofs only [g1, ws, ↓reduceIte, Nat.reduceEqDiff, Nat.reduceAdd, Nat.reduceLeDiff]
          · refine exitNew hw (by rfl) (by rfl) ?_
            simp only [if_pos (show l < 56320 ∨ 57343 < l from .inl (by simp at g1; omega))] at h
            exact h
          refine chooseK_split (fun g2 => ?_) (fun g2 => ?_) <;> simp -implicitDefEqProofs only [g2, ws, ↓reduceIte, Nat.reduceEqDiff, Nat.reduceAdd, Nat.reduceLeDiff]
          · refine exitNew hw (by rfl) (by rfl) ?_
            simp only [if_pos (show l < 56320 ∨ 57343 < l from .inr (by simp at g2; omega))] at h
            exact h
          have g1' : 56320 ≤ l := by simp at g1; omega
          have g2' : l ≤ 57343 := by simp at g2; omega
          refine ⟨by omega, exitNew hw (by rfl) (by rfl) ?_⟩
          simp only [if_neg (show ¬ (l < 56320 ∨ 57343 < l) by omega)] at h
          have hk : (2 : Int) ^ min (Int.toNat 10) (IntKind.bits .i32) = 1024 := rfl
          rw [hk, wrap32z (n := (r : Int) - 55296) (by omega), wrap32z (n := ((r : Int) - 55296) * 1024) (by omega), wrap32z (n := (l : Int) - 56320) (by omega), wrap32z (n := ((r : Int) - 55296) * 1024 + ((l : Int) - 56320)) (by omega), wrap32z (by omega)]
          have hz : ((r : Int) - 55296) * 1024 + ((l : Int) - 56320) + 65536 = (((r - 55296) * 1024 + (l - 56320) + 65536 : Nat) : Int) := by omega
          rw [hz]
          exact h
      · skip
        have e1 : decide ((r : Int) ≥ 56320) = true := decide_eq_true (by omega)
        have e2 : decide ((r : Int) ≤ 57343) = true := decide_eq_true (by omega)
        have e3 : decide ((r : Int) < 55296) = false := decide_eq_false (by omega)
        have e4 : decide ((r : Int) > 57343) = false := decide_eq_false (by omega)
        simp -implicitDefEqProofs only [e1, e2, e3, e4, f0, ws, ↓reduceIte, Nat.reduceEqDiff, Nat.reduceAdd, Nat.reduceLeDiff]
        refine exitNew hw (by rfl) (by rfl) ?_
        simpa [if_pos hc] using h
      · skip
        have e1 : decide ((r : Int) ≥ 56320) = true := decide_eq_true (by omega)
        have e2 : decide ((r : Int) ≤ 57343) = false := decide_eq_false (by omega)
        have e3 : decide ((r : Int) < 55296) = false := decide_eq_false (by omega)
        have e4 : decide ((r : Int) > 57343) = true := decide_eq_true (by omega)
        simp -implicitDefEqProofs only [e1, e2, e3, e4, f0, ws, ↓reduceIte, Nat.reduceEqDiff, Nat.reduceAdd, Nat.reduceLeDiff]
        refine exitNew hw (by rfl) (by rfl) ?_
        simpa [if_neg (show ¬ (56320 ≤ r ∧ r ≤ 57343) by omega), if_pos (show r < 55296 ∨ 57343 < r by omega)] using h
end Go.Proofs.YtgdcdkgmeomhpaaDoor

namespace Go.Proofs.YtgdcdkgmeomhpaaDoor
open Go Go.Vs
set_option maxRecDepth 20000
attribute [local irreducible] chooseK

theorem all_lt {n : Nat} {p : Nat → Bool} (h : (List.range n).all p = true) {x : Nat} (hx : x < n) : p x = true := List.all_eq_true.1 h x (List.mem_range.2 hx)

theorem wrapu8 (n : Nat) : IntKind.wrap .u8 (n : Int) = ((n % 256 : Nat) : Int) := by
  simp only [IntKind.wrap, IntKind.bits, IntKind.signed, Bool.false_and]
  simp
theorem wrapu32 {n : Nat} (h : n < 4294967296) : IntKind.wrap .u32 (n : Int) = (n : Int) := by
  simp only [IntKind.wrap, IntKind.bits, IntKind.signed, Bool.false_and]
  simp; omega
/-- The low six bits. -/
theorem low6 (n : Nat) : ibits .and .u8 (IntKind.wrap .u8 (n : Int)) 63 = ((n % 64 : Nat) : Int) := by
  rw [wrapu8]
  have h := of_decide_eq_true (all_lt (n := 256) (p := fun x => decide (ibits .and .u8 (x : Int) 63 = ((x % 64 : Nat) : Int))) (by kernel_rfl) (x := n % 256) (by omega))
  rw [h]
  congr 1
  omega
theorem or128 {n : Nat} (h : n < 64) : ibits .or .u8 128 (n : Int) = ((128 + n : Nat) : Int) :=
  of_decide_eq_true (all_lt (n := 64) (p := fun x => decide (ibits .or .u8 128 (x : Int) = ((128 + x : Nat) : Int))) (by kernel_rfl) h)
theorem or192 {n : Nat} (h : n < 32) : ibits .or .u8 192 (IntKind.wrap .u8 (n : Int)) = ((192 + n : Nat) : Int) :=
  of_decide_eq_true (all_lt (n := 32) (p := fun x => decide (ibits .or .u8 192 (IntKind.wrap .u8 (x : Int)) = ((192 + x : Nat) : Int))) (by kernel_rfl) h)
theorem or224 {n : Nat} (h : n < 16) : ibits .or .u8 224 (IntKind.wrap .u8 (n : Int)) = ((224 + n : Nat) : Int) :=
  of_decide_eq_true (all_lt (n := 16) (p := fun x => decide (ibits .or .u8 224 (IntKind.wrap .u8 (x : Int)) = ((224 + x : Nat) : Int))) (by kernel_rfl) h)
theorem or240 {n : Nat} (h : n < 8) : ibits .or .u8 240 (IntKind.wrap .u8 (n : Int)) = ((240 + n : Nat) : Int) :=
  of_decide_eq_true (all_lt (n := 8) (p := fun x => decide (ibits .or .u8 240 (IntKind.wrap .u8 (x : Int)) = ((240 + x : Nat) : Int))) (by kernel_rfl) h)
theorem shr6 (n : Nat) : (n : Int).fdiv (2 ^ min (Int.toNat 6) (IntKind.bits .i32)) = ((n / 64 : Nat) : Int) := by
  rw [show (2 : Int) ^ min (Int.toNat 6) (IntKind.bits .i32) = 64 from rfl, Int.fdiv_eq_ediv_of_nonneg _ (by omega)]; omega
theorem shr12 (n : Nat) : (n : Int).fdiv (2 ^ min (Int.toNat 12) (IntKind.bits .i32)) = ((n / 4096 : Nat) : Int) := by
  rw [show (2 : Int) ^ min (Int.toNat 12) (IntKind.bits .i32) = 4096 from rfl, Int.fdiv_eq_ediv_of_nonneg _ (by omega)]; omega
theorem shr18 (n : Nat) : (n : Int).fdiv (2 ^ min (Int.toNat 18) (IntKind.bits .i32)) = ((n / 262144 : Nat) : Int) := by
  rw [show (2 : Int) ^ min (Int.toNat 18) (IntKind.bits .i32) = 262144 from rfl, Int.fdiv_eq_ediv_of_nonneg _ (by omega)]; omega

/-- A rune's bytes, as numbers. -/
def encN (r : Nat) : List Nat :=
  if r ≤ 127 then [r]
  else if r ≤ 2047 then [192 + r / 64, 128 + r % 64]
  else if r < 55296 ∨ (57343 < r ∧ r ≤ 65535) then [224 + r / 4096, 128 + r / 64 % 64, 128 + r % 64]
  else if 65535 < r ∧ r ≤ 1114111 then [240 + r / 262144, 128 + r / 4096 % 64, 128 + r / 64 % 64, 128 + r % 64]
  else [239, 191, 189]
/-- A rune's bytes. -/
def encR (r : Nat) : List UInt8 := (encN r).map UInt8.ofNat
theorem encN_lt (r : Nat) : ∀ x ∈ encN r, x < 256 := by
  unfold encN
  intro x hx
  repeat' split at hx
  all_goals simp at hx; omega
theorem encR_ne (r : Nat) : encR r ≠ [] := by
  unfold encR encN
  repeat' split
  all_goals simp
theorem encR_len (r : Nat) : (encR r).length ≤ 4 := by
  unfold encR encN
  repeat' split
  all_goals simp
theorem bytesV_ofNat {l : List Nat} (h : ∀ x ∈ l, x < 256) : bytesV (l.map UInt8.ofNat) = l.map fun (n : Nat) => V.int .u8 (n : Int) := by
  simp only [bytesV, List.map_map]
  apply List.map_congr_left
  intro x hx
  have := h x hx
  simp [Function.comp]
  omega

theorem vapp_mono {e : TypeId} {sz : Nat} {σ : St} {x : V} {ys : List V} {K K' : V → St → Prop} (h : vapp e sz σ x ys K) (hk : ∀ v σ', K v σ' → K' v σ') : vapp e sz σ x ys K' := by
  refine ⟨h.1, ?_⟩
  have h2 := h.2
  split at h2
  · refine ⟨h2.1, ?_⟩
    have h3 := h2.2
    split at h3
    · rename_i hy; simp only [if_pos hy]; exact hk _ _ h3
    · rename_i hy; simp only [if_neg hy]; exact hk _ _ h3
  · refine ⟨h2.1, h2.2.1, ?_⟩
    have h3 := h2.2.2
    split at h3
    · rename_i hy; simp only [if_pos hy]; exact hk _ _ h3
    · rename_i hy; simp only [if_neg hy]; exact hk _ _ h3
  · exact ⟨h2.1, h2.2.1, h2.2.2.1, h2.2.2.2.1, h2.2.2.2.2.1, hk _ _ h2.2.2.2.2.2⟩
  · exact h2

theorem appRuneNA_C {x : V} {r : Nat} {σ : St} {Q : Out → St → Prop} (hr : r < 2147483648) (h7 : 127 < r) (h : vapp 5 1 σ x (bytesV (encR r)) (fun v σ' => Q (.ret v) σ')) : C Xc 82 [x, .int .i32 (r : Int)] σ Q := by
  refine body cf_appendRuneNA (Eq.refl true) ?_
  rw [encR, bytesV_ofNat (encN_lt r), encN, if_neg (by omega)] at h
  simp -implicitDefEqProofs only [vf_appendRuneNA, wrapu32 (show r < 4294967296 by omega), ws, ↓reduceIte, Nat.reduceEqDiff, Nat.reduceAdd, Nat.reduceLeDiff]
  have hu := wrapu32 (show r < 4294967296 by omega)
  refine chooseK_split (fun g1 => ?_) (fun g1 => ?_) <;> simp -implicitDefEqProofs only [g1, hu, ws, ↓reduceIte, Nat.reduceEqDiff, Nat.reduceAdd, Nat.reduceLeDiff]
  · have g : r ≤ 2047 := by simp at g1; omega
    rw [if_pos g] at h
    refine ⟨by omega, by simp [V.cells, V.notTup], ?_⟩
    rw [shr6, or192 (by omega), low6, or128 (by omega)]
    refine vapp_mono h fun v σ' hv => ?_
    simp -implicitDefEqProofs only [ws, ↓reduceIte, Nat.reduceEqDiff, Nat.reduceAdd, Nat.reduceLeDiff]
    exact .inl hv
  have g : ¬ r ≤ 2047 := by simp at g1; omega
  rw [if_neg g] at h
  have three : (r < 55296 ∨ (57343 < r ∧ r ≤ 65535)) → vapp 5 1 σ x [.int .u8 (ibits .or .u8 224 (IntKind.wrap .u8 ((r : Int).fdiv (2 ^ min (Int.toNat 12) (IntKind.bits .i32))))), .int .u8 (ibits .or .u8 128 (ibits .and .u8 (IntKind.wrap .u8 ((r : Int).fdiv (2 ^ min (Int.toNat 6) (IntKind.bits .i32)))) 63)), .int .u8 (ibits .or .u8 128 (ibits .and .u8 (IntKind.wrap .u8 (r : Int)) 63))] (fun v σ' => Q (.ret v) σ') := fun hg => by
    rw [if_pos hg] at h
    rw [shr12, shr6, or224 (by omega), low6, low6, or128 (by omega), or128 (by omega)]
    exact h
  refine chooseK_split (fun g2 => ?_) (fun g2 => ?_) <;> simp -implicitDefEqProofs only [g2, hu, ws, ↓reduceIte, Nat.reduceEqDiff, Nat.reduceAdd, Nat.reduceLeDiff]
  · refine ⟨by omega, by omega, by simp [V.cells, V.notTup], ?_⟩
    have h := three (.inl (by simp at g2; omega))
    refine vapp_mono h fun v σ' hv => ?_
    simp -implicitDefEqProofs only [ws, ↓reduceIte, Nat.reduceEqDiff, Nat.reduceAdd, Nat.reduceLeDiff]
    exact .inl hv
  have g2' : ¬ r < 55296 := by simp at g2; omega
  have hcase : r ≤ 57343 ∨ (57343 < r ∧ r ≤ 65535) ∨ (65535 < r ∧ r ≤ 1114111) ∨ 1114111 < r := by omega
  rcases hcase with hc | hc | hc | hc
  · skip
    have d1 : decide (57343 < (r : Int)) = false := decide_eq_false (by omega)
    have d2 : decide ((r : Int) ≤ 65535) = true := decide_eq_true (by omega)
    have d3 : decide ((r : Int) > 65535) = false := decide_eq_false (by omega)
    have d4 : decide ((r : Int) ≤ 1114111) = true := decide_eq_true (by omega)
    simp -implicitDefEqProofs only [d1, d2, d3, d4, hu, ws, ↓reduceIte, Nat.reduceEqDiff, Nat.reduceAdd, Nat.reduceLeDiff]
    refine ⟨by simp [V.cells, V.notTup], ?_⟩
    rw [if_neg (by omega), if_neg (by omega)] at h
    refine vapp_mono h fun v σ' hv => ?_
    simp -implicitDefEqProofs only [ws, ↓reduceIte, Nat.reduceEqDiff, Nat.reduceAdd, Nat.reduceLeDiff]
    exact .inl hv
  · skip
    have d1 : decide (57343 < (r : Int)) = true := decide_eq_true (by omega)
    have d2 : decide ((r : Int) ≤ 65535) = true := decide_eq_true (by omega)
    have d3 : decide ((r : Int) > 65535) = false := decide_eq_false (by omega)
    have d4 : decide ((r : Int) ≤ 1114111) = true := decide_eq_true (by omega)
    simp -implicitDefEqProofs only [d1, d2, d3, d4, hu, ws, ↓reduceIte, Nat.reduceEqDiff, Nat.reduceAdd, Nat.reduceLeDiff]
    refine ⟨by omega, by omega, by simp [V.cells, V.notTup], ?_⟩
    have h := three (.inr (by omega))
    refine vapp_mono h fun v σ' hv => ?_
    simp -implicitDefEqProofs only [ws, ↓reduceIte, Nat.reduceEqDiff, Nat.reduceAdd, Nat.reduceLeDiff]
    exact .inl hv
  · skip
    have d1 : decide (57343 < (r : Int)) = true := decide_eq_true (by omega)
    have d2 : decide ((r : Int) ≤ 65535) = false := decide_eq_false (by omega)
    have d3 : decide ((r : Int) > 65535) = true := decide_eq_true (by omega)
    have d4 : decide ((r : Int) ≤ 1114111) = true := decide_eq_true (by omega)
    simp -implicitDefEqProofs only [d1, d2, d3, d4, hu, ws, ↓reduceIte, Nat.reduceEqDiff, Nat.reduceAdd, Nat.reduceLeDiff]
    rw [if_neg (by omega), if_pos (by omega)] at h
    refine ⟨by omega, by omega, by omega, by simp [V.cells, V.notTup], ?_⟩
    rw [shr18, shr12, shr6, or240 (by omega), low6, low6, low6, or128 (by omega), or128 (by omega), or128 (by omega)]
    refine vapp_mono h fun v σ' hv => ?_
    simp -implicitDefEqProofs only [ws, ↓reduceIte, Nat.reduceEqDiff, Nat.reduceAdd, Nat.reduceLeDiff]
    exact .inl hv
  · skip
    have d1 : decide (57343 < (r : Int)) = true := decide_eq_true (by omega)
    have d2 : decide ((r : Int) ≤ 65535) = false := decide_eq_false (by omega)
    have d3 : decide ((r : Int) > 65535) = true := decide_eq_true (by omega)
    have d4 : decide ((r : Int) ≤ 1114111) = false := decide_eq_false (by omega)
    simp -implicitDefEqProofs only [d1, d2, d3, d4, hu, ws, ↓reduceIte, Nat.reduceEqDiff, Nat.reduceAdd, Nat.reduceLeDiff]
    refine ⟨by simp [V.cells, V.notTup], ?_⟩
    rw [if_neg (by omega), if_neg (by omega)] at h
    refine vapp_mono h fun v σ' hv => ?_
    simp -implicitDefEqProofs only [ws, ↓reduceIte, Nat.reduceEqDiff, Nat.reduceAdd, Nat.reduceLeDiff]
    exact .inl hv

/-- A rune is appended. -/
theorem appRune_C {x : V} {r : Nat} {σ : St} {Q : Out → St → Prop} (hr : r < 2147483648) (h : vapp 5 1 σ x (bytesV (encR r)) (fun v σ' => Q (.ret v) σ')) : C Xc 73 [x, .int .i32 (r : Int)] σ Q := by
  refine body cf_appendRune (Eq.refl true) ?_
  have hu := wrapu32 (show r < 4294967296 by omega)
  simp -implicitDefEqProofs only [vf_appendRune, hu, ws, ↓reduceIte, Nat.reduceEqDiff, Nat.reduceAdd, Nat.reduceLeDiff]
  refine chooseK_split (fun g1 => ?_) (fun g1 => ?_) <;> simp -implicitDefEqProofs only [g1, hu, ws, ↓reduceIte, Nat.reduceEqDiff, Nat.reduceAdd, Nat.reduceLeDiff]
  · have g : r ≤ 127 := by simp at g1; omega
    rw [encR, bytesV_ofNat (encN_lt r), encN, if_pos g] at h
    refine ⟨by simp [V.cells, V.notTup], ?_⟩
    rw [wrapu8, Nat.mod_eq_of_lt (by omega)]
    refine vapp_mono h fun v σ' hv => ?_
    simp -implicitDefEqProofs only [ws, ↓reduceIte, Nat.reduceEqDiff, Nat.reduceAdd, Nat.reduceLeDiff]
    exact .inl hv
  · have g : ¬ r ≤ 127 := by simp at g1; omega
    refine appRuneNA_C hr (by omega) (vapp_mono h fun v σ' hv => ?_)
    simp -implicitDefEqProofs only [ws, ↓reduceIte, Nat.reduceEqDiff, Nat.reduceAdd, Nat.reduceLeDiff]
    exact .inl hv

theorem bytesV_cells (b : List UInt8) : ∀ y ∈ bytesV b, y.cells.length = 1 ∧ y.notTup = true := by
  intro y hy
  obtain ⟨c, _, rfl⟩ := List.mem_map.1 hy
  exact ⟨rfl, rfl⟩
theorem bytesV_len (b : List UInt8) : (bytesV b).length = b.length := by simp [bytesV]
theorem bytesV_nil {b : List UInt8} : bytesV b = [] ↔ b = [] := by simp [bytesV]
theorem bytesV_app (a b : List UInt8) : bytesV (a ++ b) = bytesV a ++ bytesV b := by simp [bytesV]
theorem vappB_nil {e : TypeId} {σ : St} {bs : List UInt8} {K : V → St → Prop} (hb : bs ≠ []) (hl : bs.length ≤ big) (h : K (.slc true (bytesV bs) (.own σ.toks.length)) { σ with toks := σ.toks ++ [bs.length], tts := σ.tts ++ [e] }) : vapp e 1 σ (.slc false [] .no) (bytesV bs) K := by
  refine ⟨bytesV_cells bs, by rw [bytesV_len]; exact hl, ?_⟩
  rw [if_neg (fun e => hb (bytesV_nil.1 e)), bytesV_len]
  exact h
theorem vappB_own {e : TypeId} {σ : St} {b bs : List UInt8} {i : Nat} {K : V → St → Prop} (hb : b ≠ []) (hl : (b ++ bs).length ≤ big) (h1 : σ.toks[i]? = some b.length) (h2 : σ.tts[i]? = some e) (h : K (.slc true (bytesV (b ++ bs)) (.own i)) { σ with toks := σ.toks.set i (b ++ bs).length }) : vapp e 1 σ (.slc true (bytesV b) (.own i)) (bytesV bs) K := by
  refine ⟨bytesV_cells bs, fun y hy => (bytesV_cells b y hy).1, fun e => hb (bytesV_nil.1 e), by rw [bytesV_len, bytesV_len, ← List.length_append]; exact hl, by rw [bytesV_len]; exact h1, h2, ?_⟩
  rw [bytesV_len, bytesV_len, ← List.length_append, ← bytesV_app]
  exact h

/-- A builder's cells: used, its row, its bytes. -/
def bldV (u : Bool) (o i : Nat) (b : List UInt8) : List V := [if u then .ref (some (o, 0)) else .ref none, if b = [] then .slc false [] .no else .slc true (bytesV b) (.own i)]

theorem copyCheck_C {o i : Nat} {u : Bool} {b : List UInt8} {σ : St} {Q : Out → St → Prop} (ho : σ.objs[o]? = some (bldV u o i b)) (ht : σ.tys[o]? = some 63) (h : Q (.ret .und) { σ with objs := σ.objs.set o (bldV true o i b) }) : C Xc 46 [.ref (some (o, 0))] σ Q := by
  refine body cf_bCopyCheck (Eq.refl true) ?_
  cases u
  · have e : bldV false o i b = [.ref none, if b = [] then .slc false [] .no else .slc true (bytesV b) (.own i)] := rfl
    have e' : bldV true o i b = [.ref (some (o, 0)), if b = [] then .slc false [] .no else .slc true (bytesV b) (.own i)] := rfl
    rw [e'] at h
    rw [e] at ho
    simp -implicitDefEqProofs only [vf_bCopyCheck, ho, ht, ws, ↓reduceIte, Nat.reduceEqDiff, Nat.reduceAdd, Nat.reduceLeDiff]
    exact ⟨by omega, .inl h⟩
  · have e : bldV true o i b = [.ref (some (o, 0)), if b = [] then .slc false [] .no else .slc true (bytesV b) (.own i)] := rfl
    rw [set_same ho] at h
    rw [e] at ho
    simp -implicitDefEqProofs only [vf_bCopyCheck, ho, ht, ws, ↓reduceIte, Nat.reduceEqDiff, Nat.reduceAdd, Nat.reduceLeDiff]
    exact .inl h

theorem writeRune0_C {o i r : Nat} {u : Bool} {σ : St} {Q : Out → St → Prop} (ho : σ.objs[o]? = some (bldV u o i [])) (ht : σ.tys[o]? = some 63) (hr : r < 2147483648)
    (h : Q (.ret (.tup [.int .i64 ((encR r).length : Int), .nilI])) ⟨σ.objs.set o (bldV true o σ.toks.length (encR r)), σ.maps, σ.toks ++ [(encR r).length], σ.tys, σ.tts ++ [5]⟩) : C Xc 61 [.ref (some (o, 0)), .int .i32 (r : Int)] σ Q := by
  have hlen := encR_len r
  refine body cf_bWriteRune (Eq.refl true) ?_
  simp -implicitDefEqProofs only [vf_bWriteRune, ws, ↓reduceIte, Nat.reduceEqDiff, Nat.reduceAdd, Nat.reduceLeDiff]
  refine copyCheck_C ho ht ?_
  have ho' := set_get (y := bldV true o i []) ho
  have ho2 := set_get (y := bldV true o σ.toks.length (encR r)) ho
  have e : bldV true o i [] = [.ref (some (o, 0)), .slc false [] .no] := rfl
  have e2 : bldV true o σ.toks.length (encR r) = [.ref (some (o, 0)), .slc true (bytesV (encR r)) (.own σ.toks.length)] := by rw [bldV, if_neg (encR_ne r)]; rfl
  rw [e2] at h ho2
  rw [e] at ho' ⊢
  simp -implicitDefEqProofs only [ho', ws, ↓reduceIte, Nat.reduceEqDiff, Nat.reduceAdd, Nat.reduceLeDiff]
  refine appRune_C hr (vappB_nil (encR_ne r) (by unfold big; omega) ?_)
  simp -implicitDefEqProofs only [ho', List.set_set, ho2, bytesV_len, ws, ↓reduceIte, Nat.reduceEqDiff, Nat.reduceAdd, Nat.reduceLeDiff]
  rw [wrap64 (by omega)]
  exact .inl (by simpa using h)

theorem writeRune_C {o i r : Nat} {u : Bool} {b : List UInt8} {σ : St} {Q : Out → St → Prop} (ho : σ.objs[o]? = some (bldV u o i b)) (ht : σ.tys[o]? = some 63) (hr : r < 2147483648) (hb : b ≠ []) (hbl : (b ++ encR r).length ≤ big) (h1 : σ.toks[i]? = some b.length) (h2 : σ.tts[i]? = some 5)
    (h : Q (.ret (.tup [.int .i64 ((encR r).length : Int), .nilI])) ⟨σ.objs.set o (bldV true o i (b ++ encR r)), σ.maps, σ.toks.set i (b ++ encR r).length, σ.tys, σ.tts⟩) : C Xc 61 [.ref (some (o, 0)), .int .i32 (r : Int)] σ Q := by
  have hlen := encR_len r
  refine body cf_bWriteRune (Eq.refl true) ?_
  simp -implicitDefEqProofs only [vf_bWriteRune, ws, ↓reduceIte, Nat.reduceEqDiff, Nat.reduceAdd, Nat.reduceLeDiff]
  refine copyCheck_C ho ht ?_
  have ho' := set_get (y := bldV true o i b) ho
  have ho2 := set_get (y := bldV true o i (b ++ encR r)) ho
  have e : bldV true o i b = [.ref (some (o, 0)), .slc true (bytesV b) (.own i)] := by rw [bldV, if_neg hb]; rfl
  have e2 : bldV true o i (b ++ encR r) = [.ref (some (o, 0)), .slc true (bytesV (b ++ encR r)) (.own i)] := by rw [bldV, if_neg (show ¬ (b ++ encR r = []) by simp [hb])]; rfl
  rw [e2] at h ho2
  rw [e] at ho' ⊢
  simp -implicitDefEqProofs only [ho', ws, ↓reduceIte, Nat.reduceEqDiff, Nat.reduceAdd, Nat.reduceLeDiff]
  refine appRune_C hr (vappB_own hb hbl h1 h2 ?_)
  simp -implicitDefEqProofs only [ho', List.set_set, ho2, bytesV_len, ws, ↓reduceIte, Nat.reduceEqDiff, Nat.reduceAdd, Nat.reduceLeDiff]
  unfold big at hbl
  rw [List.length_append] at hbl
  rw [wrap64 (by omega)]
  refine .inl ?_
  have : ((b.length + (encR r).length : Nat) : Int) - (b.length : Int) = ((encR r).length : Int) := by omega
  rw [this]
  simpa using h

theorem vbytes_bytesV (b : List UInt8) : vbytes (bytesV b) = some b := by
  induction b with
  | nil => rfl
  | cons c r ih =>
    have hc := c.toNat_lt
    show (if (0 : Int) ≤ (c.toNat : Int) ∧ (c.toNat : Int) < 256 then (vbytes (bytesV r)).map ((c.toNat : Int).toNat.toUInt8 :: ·) else none) = _
    rw [if_pos (by omega), ih]
    simp
theorem bString_C {o i : Nat} {u : Bool} {b : List UInt8} {σ : St} {Q : Out → St → Prop} (ho : σ.objs[o]? = some (bldV u o i b)) (hbl : b.length ≤ big) (h1 : b ≠ [] → σ.toks[i]? = some b.length ∧ σ.tts[i]? = some 5)
    (h : Q (.ret (.str b)) σ) : C Xc 31 [.ref (some (o, 0))] σ Q := by
  refine body cf_bString (Eq.refl true) ?_
  by_cases hb : b = []
  · subst hb
    have e : bldV u o i [] = [if u then .ref (some (o, 0)) else .ref none, .slc false [] .no] := rfl
    rw [e] at ho
    simp -implicitDefEqProofs only [vf_bString, ho, ws, ↓reduceIte, Nat.reduceEqDiff, Nat.reduceAdd, Nat.reduceLeDiff]
    exact ⟨rfl, .inl h⟩
  · have e : bldV u o i b = [if u then .ref (some (o, 0)) else .ref none, .slc true (bytesV b) (.own i)] := by rw [bldV, if_neg hb]
    rw [e] at ho
    obtain ⟨h1, h2⟩ := h1 hb
    simp -implicitDefEqProofs only [vf_bString, ho, h1, h2, vbytes_bytesV, ws, ↓reduceIte, Nat.reduceEqDiff, Nat.reduceAdd, Nat.reduceLeDiff]
    refine ⟨by rw [bytesV_len], fun e => hb (bytesV_nil.1 e), fun y hy => ?_, by rw [bytesV_len], hbl, hb, .inl h⟩
    obtain ⟨c, _, rfl⟩ := List.mem_map.1 hy
    exact ⟨rfl, rfl⟩
end Go.Proofs.YtgdcdkgmeomhpaaDoor

namespace Go.Proofs.YtgdcdkgmeomhpaaDoor
open Go Go.Vs
set_option maxRecDepth 20000
attribute [local irreducible] chooseK

/-- What may follow in a string: its bytes and the offset behind it, or an offset and an error; from offset i, with the bytes so far. -/
def strS (s : List UInt8) (at0 : Nat) : Nat → Nat → List UInt8 → List UInt8 × Nat × Nat
  | 0, _, _ => ([], at0, 8)
  | k + 1, i, b =>
    if s.length ≤ i then ([], at0, 8)
    else
      let d := decT (s.drop i)
      if d.2 = 0 then ([], i, 5)
      else if d.1 < 32 then ([], i, 6)
      else if d.1 = 34 then (b, i + 1, 0)
      else if d.1 = 92 then
        if i + 1 = s.length then ([], at0, 8)
        else
          let e := seqS (s.drop i)
          if e.2 = 0 then ([], i, 16)
          else strS s at0 k (i + e.2) (b ++ encR e.1)
      else strS s at0 k (i + d.2) (b ++ encR d.1)

/-- A JSON string at an offset. -/
def strP (s : List UInt8) (i : Nat) : List UInt8 × Nat × Nat := if i < s.length ∧ bN s i = 34 then strS s i (s.length - i) (i + 1) [] else ([], i, 7)

theorem decT_cases (l : List UInt8) : decT l = (0, 0) ∨ (1 ≤ (decT l).2 ∧ (decT l).2 ≤ l.length ∧
    (((decT l).2 = 1 ∧ (decT l).1 < 128) ∨ ((decT l).2 = 2 ∧ 128 ≤ (decT l).1 ∧ (decT l).1 < 2048) ∨ ((decT l).2 = 3 ∧ 2048 ≤ (decT l).1 ∧ (decT l).1 < 65536 ∧ ((decT l).1 < 55296 ∨ 57343 < (decT l).1)) ∨ ((decT l).2 = 4 ∧ 65536 ≤ (decT l).1 ∧ (decT l).1 ≤ 1114111))) := by
  unfold decT
  split
  · exact .inl rfl
  split
  · exact .inl rfl
  rename_i hne hbad
  have hl : 0 < l.length := List.length_pos_iff.2 hne
  have h0 := bN_lt l 0
  right
  unfold decS Lib.decodeN at hbad ⊢
  split
  · exact ⟨Nat.le_refl 1, by dsimp only; omega, .inl ⟨rfl, by dsimp only; omega⟩⟩
  rename_i h1
  rw [if_neg h1] at hbad
  split
  · rename_i h2
    rw [if_pos h2] at hbad
    split
    · exact ⟨by dsimp only; omega, by dsimp only; omega, .inr (.inl ⟨rfl, by dsimp only; omega, by dsimp only; omega⟩)⟩
    · rename_i h3; rw [if_neg h3] at hbad; exact absurd rfl hbad
  rename_i h2
  rw [if_neg h2] at hbad
  split
  · rename_i h3
    rw [if_pos h3] at hbad
    split
    · exact ⟨by dsimp only; omega, by dsimp only; omega, .inr (.inr (.inl ⟨rfl, by dsimp only; omega, by dsimp only; omega, by dsimp only; omega⟩))⟩
    · rename_i h4; rw [if_neg h4] at hbad; exact absurd rfl hbad
  rename_i h3
  rw [if_neg h3] at hbad
  split
  · rename_i h4
    rw [if_pos h4] at hbad
    split
    · exact ⟨by dsimp only; omega, by dsimp only; omega, .inr (.inr (.inr ⟨rfl, by dsimp only; omega, by dsimp only; omega⟩))⟩
    · rename_i h5; rw [if_neg h5] at hbad; exact absurd rfl hbad
  · rename_i h4; rw [if_neg h4] at hbad; exact absurd rfl hbad

theorem encR_length (r : Nat) : (encR r).length = if r ≤ 127 then 1 else if r ≤ 2047 then 2 else if r < 55296 ∨ (57343 < r ∧ r ≤ 65535) then 3 else if 65535 < r ∧ r ≤ 1114111 then 4 else 3 := by
  unfold encR encN
  repeat' split
  all_goals simp_all

theorem decT_enc (l : List UInt8) (h : (decT l).2 ≠ 0) : (encR (decT l).1).length ≤ (decT l).2 ∧ (decT l).1 < 2147483648 ∧ (decT l).2 ≤ l.length := by
  rcases decT_cases l with e | ⟨h1, h2, h3⟩
  · rw [e] at h; exact absurd rfl h
  · rw [encR_length]
    refine ⟨?_, by omega, h2⟩
    repeat' split
    all_goals omega

theorem seqS_enc (l : List UInt8) (hl : 2 ≤ l.length) (h : (seqS l).2 ≠ 0) : (encR (seqS l).1).length ≤ (seqS l).2 ∧ (seqS l).1 < 2147483648 ∧ (seqS l).2 ≤ l.length := by
  have key : (seqS l).1 < 128 ∧ (seqS l).2 = 2 ∨ (seqS l).1 < 65536 ∧ (seqS l).2 = 6 ∧ 6 ≤ l.length ∨ (seqS l).1 ≤ 1114111 ∧ (seqS l).2 = 12 ∧ 12 ≤ l.length ∨ (seqS l).2 = 0 := by
    unfold seqS
    split
    · exact .inl ⟨by dsimp only; omega, rfl⟩
    split
    · rename_i v hv
      refine .inl ⟨?_, rfl⟩
      unfold letV at hv
      repeat' split at hv
      all_goals first | (cases hv; decide) | cases hv
    split
    · exact .inr (.inr (.inr rfl))
    · rename_i r hr
      have hr1 := unitS_lt hr
      have hr2 := unitS_len hr
      split
      · exact .inr (.inr (.inr rfl))
      split
      · exact .inr (.inl ⟨hr1, rfl, hr2⟩)
      split
      · exact .inr (.inr (.inr rfl))
      · rename_i q hq
        have hq1 := unitS_lt hq
        have hq2 := unitS_len hq
        rw [List.length_drop] at hq2
        split
        · exact .inr (.inr (.inr rfl))
        · exact .inr (.inr (.inl ⟨by dsimp only; omega, rfl, by omega⟩))
  rw [encR_length]
  refine ⟨?_, by omega, by omega⟩
  repeat' split
  all_goals omega

/-- The store in which a builder has been made and filled. -/
def jst (σ : St) (b : List UInt8) : St :=
  if b = [] then ⟨σ.objs ++ [bldV false σ.objs.length 0 []], σ.maps, σ.toks, σ.tys ++ [63], σ.tts⟩
  else ⟨σ.objs ++ [bldV true σ.objs.length σ.toks.length b], σ.maps, σ.toks ++ [b.length], σ.tys ++ [63], σ.tts ++ [5]⟩

theorem jst_write {σ : St} (hw : σ.wf) {b : List UInt8} {r : Nat} {Q : Out → St → Prop} (hr : r < 2147483648) (hbl : (b ++ encR r).length ≤ big) (h : Q (.ret (.tup [.int .i64 ((encR r).length : Int), .nilI])) (jst σ (b ++ encR r))) :
    C Xc 61 [.ref (some (σ.objs.length, 0)), .int .i32 (r : Int)] (jst σ b) Q := by
  have hy : ∀ y, (σ.tys ++ [y])[σ.objs.length]? = some y := fun y => app_get _ _ hw.1
  by_cases hb : b = []
  · subst hb
    rw [jst, if_pos rfl]
    refine writeRune0_C (app_get _ _ rfl) (hy _) hr ?_
    rw [List.nil_append, jst, if_neg (encR_ne r)] at h
    simp only [app_set _ _ _ (Eq.refl σ.objs.length)]
    exact h
  · rw [jst, if_neg hb]
    refine writeRune_C (app_get _ _ rfl) (hy _) hr hb hbl (app_get _ _ rfl) (app_get _ _ hw.2) ?_
    rw [jst, if_neg (by simp [hb])] at h
    simp only [app_set _ _ _ (Eq.refl σ.objs.length), app_set _ _ _ (Eq.refl σ.toks.length)]
    exact h

theorem jst_string {σ : St} (hw : σ.wf) {b : List UInt8} {Q : Out → St → Prop} (hbl : b.length ≤ big) (h : Q (.ret (.str b)) (jst σ b)) :
    C Xc 31 [.ref (some (σ.objs.length, 0))] (jst σ b) Q := by
  by_cases hb : b = []
  · subst hb
    rw [jst, if_pos rfl] at h ⊢
    exact bString_C (app_get _ _ rfl) hbl (fun e => absurd rfl e) h
  · rw [jst, if_neg hb] at h ⊢
    exact bString_C (app_get _ _ rfl) hbl (fun _ => ⟨app_get _ _ rfl, app_get _ _ hw.2⟩) h

theorem jst_exit {σ : St} (hw : σ.wf) {b : List UInt8} {Q : Out → St → Prop} {out : Out} (hc : out.clean σ.toks.length = out) (hf : out.fits σ.objs.length σ.maps.length σ.toks.length = true) (h : Q out σ) : ExitOk σ Q out (jst σ b) := by
  unfold jst
  split
  · exact exitNew hw hc hf h
  · have := exitCut (σ0 := σ) (O := σ.objs) (xo := [bldV true σ.objs.length σ.toks.length b]) (M := σ.maps) (xm := []) (T := σ.toks) (xt := [b.length]) (Y := σ.tys) (xy := [63]) (TT := σ.tts) (xtt := [5]) (Q := Q) (out := out) rfl rfl rfl hw.1 hw.2 (by rw [hc]; exact hf) (fun o cs ho => .inl ho) (fun r es hr => .inl hr) (by rw [hc]; exact h)
    simpa using this

theorem jsParse_C {s : List UInt8} {i : Nat} {σ : St} {Q : Out → St → Prop} (hi : i ≤ s.length) (hs : s.length ≤ big) (h : Q (.ret (.tup [.str (strP s i).1, .int .i64 ((strP s i).2.1 : Int), .int .i64 ((strP s i).2.2 : Int)])) σ) : C Xc 49 [.str s, .int .i64 (i : Int)] σ Q := by
  have hs' := hs
  unfold big at hs'
  refine bodyW cf_jsParse (Eq.refl true) fun hw => ?_
  have hn : decide ((i : Int) < 0) = false := decide_eq_false (by omega)
  simp -implicitDefEqProofs only [vf_jsParse, hn, ws, ↓reduceIte, Nat.reduceEqDiff, Nat.reduceAdd, Nat.reduceLeDiff]
  have hc0 : ((s.getD ((i : Int).toNat) 0).toNat) = bN s i := rfl
  refine chooseK_split (fun h1 => ?_) (fun h1 => ?_) <;> simp -implicitDefEqProofs only [h1, ws, ↓reduceIte, Nat.reduceEqDiff, Nat.reduceAdd, Nat.reduceLeDiff]
  · rw [strP, if_neg (by simp at h1; omega)] at h
    exact .inl h
  have hi' : i < s.length := by simp at h1; omega
  refine ⟨by omega, ?_⟩
  refine chooseK_split (fun h2 => ?_) (fun h2 => ?_) <;> simp -implicitDefEqProofs only [h2, ws, ↓reduceIte, Nat.reduceEqDiff, Nat.reduceAdd, Nat.reduceLeDiff]
  · have : bN s i ≠ 34 := by simp [bN] at h2 ⊢; omega
    rw [strP, if_neg (fun e => this e.2)] at h
    exact .inl h
  have h34 : bN s i = 34 := by simp [bN] at h2 ⊢; omega
  rw [strP, if_pos ⟨hi', h34⟩] at h
  refine LoopP.intro (fun n fr σ' => ∃ (j : Nat) (b : List UInt8), i < j ∧ j ≤ s.length ∧ s.length < j + n ∧ b.length ≤ j ∧ Q (.ret (.tup [.str (strS s i n j b).1, .int .i64 ((strS s i n j b).2.1 : Int), .int .i64 ((strS s i n j b).2.2 : Int)])) σ ∧ fr 0 = .str s ∧ fr 1 = .int .i64 (i : Int) ∧ fr 7 = .ref (some (σ.objs.length, 0)) ∧ fr 8 = .int .i64 (j : Int) ∧ σ' = jst σ b) (s.length - i)
    ⟨i + 1, [], by omega, by omega, by omega, by simp, h, by simp -implicitDefEqProofs only [ws, ↓reduceIte, Nat.reduceEqDiff, Nat.reduceAdd, Nat.reduceLeDiff], by simp -implicitDefEqProofs only [ws, ↓reduceIte, Nat.reduceEqDiff, Nat.reduceAdd, Nat.reduceLeDiff], by simp -implicitDefEqProofs only [ws, ↓reduceIte, Nat.reduceEqDiff, Nat.reduceAdd, Nat.reduceLeDiff], by simp -implicitDefEqProofs only [ws, ↓reduceIte, Nat.reduceEqDiff, Nat.reduceAdd, Nat.reduceLeDiff]; rw [wrap64 (by omega)]; rfl, by rw [jst, if_pos rfl]; rfl⟩ ?_
  clear h
  rintro n fr σ' ⟨j, b, hj0, hj, hjn, hbj, h, f0, f1, f7, f8, rfl⟩
  simp -implicitDefEqProofs only [f0, f1, f7, f8, ws, ↓reduceIte, Nat.reduceEqDiff, Nat.reduceAdd, Nat.reduceLeDiff]
  refine chooseK_split (fun g1 => ?_) (fun g1 => ?_) <;> simp -implicitDefEqProofs only [g1, f0, f1, f7, f8, ws, ↓reduceIte, Nat.reduceEqDiff, Nat.reduceAdd, Nat.reduceLeDiff]
  · have hjl : j < s.length := by simp at g1; omega
    obtain ⟨n, rfl⟩ : ∃ m, n = m + 1 := ⟨n - 1, by omega⟩
    rw [strS, if_neg (by omega)] at h
    refine decode_C (by omega) hs ?_
    rw [Int.toNat_natCast]
    have hd := decT_enc (s.drop j)
    generalize hD : decT (s.drop j) = d at h hd ⊢
    obtain ⟨r, w⟩ := d
    dsimp only at h hd ⊢
    rw [List.length_drop] at hd
    simp -implicitDefEqProofs only [f0, f1, f7, f8, ws, ↓reduceIte, Nat.reduceEqDiff, Nat.reduceAdd, Nat.reduceLeDiff]
    refine chooseK_split (fun g2 => ?_) (fun g2 => ?_) <;> simp -implicitDefEqProofs only [g2, f0, f1, f7, f8, ws, ↓reduceIte, Nat.reduceEqDiff, Nat.reduceAdd, Nat.reduceLeDiff]
    · rw [if_pos (by simp at g2; omega)] at h
      exact jst_exit hw (by rfl) (by rfl) h
    have hw0 : w ≠ 0 := by simp at g2; omega
    have hd := hd hw0
    rw [if_neg hw0] at h
    refine chooseK_split (fun g3 => ?_) (fun g3 => ?_) <;> simp -implicitDefEqProofs only [g3, f0, f1, f7, f8, ws, ↓reduceIte, Nat.reduceEqDiff, Nat.reduceAdd, Nat.reduceLeDiff]
    · rw [if_pos (by simp at g3; omega)] at h
      exact jst_exit hw (by rfl) (by rfl) h
    rw [if_neg (by simp at g3; omega)] at h
    refine chooseK_split (fun g4 => ?_) (fun g4 => ?_) <;> simp -implicitDefEqProofs only [g4, f0, f1, f7, f8, ws, ↓reduceIte, Nat.reduceEqDiff, Nat.reduceAdd, Nat.reduceLeDiff]
    · rw [if_pos (by simp at g4; omega)] at h
      refine jst_string hw (by unfold big; omega) ?_
      simp -implicitDefEqProofs only [f0, f1, f7, f8, ws, ↓reduceIte, Nat.reduceEqDiff, Nat.reduceAdd, Nat.reduceLeDiff]
      rw [wrap64 (by omega)]
      exact jst_exit hw (by rfl) (by rfl) h
    rw [if_neg (by simp at g4; omega)] at h
    refine chooseK_split (fun g5 => ?_) (fun g5 => ?_) <;> simp -implicitDefEqProofs only [g5, f0, f1, f7, f8, ws, ↓reduceIte, Nat.reduceEqDiff, Nat.reduceAdd, Nat.reduceLeDiff]
    · rw [if_neg (by simp at g5; omega)] at h
      have hb2 : (b ++ encR r).length ≤ j + w := by rw [List.length_append]; omega
      refine jst_write hw (by omega) (by unfold big; omega) ?_
      simp -implicitDefEqProofs only [f0, f1, f7, f8, ws, ↓reduceIte, Nat.reduceEqDiff, Nat.reduceAdd, Nat.reduceLeDiff]
      exact ⟨n, by omega, j + w, b ++ encR r, by omega, by omega, by omega, hb2, h, by simp -implicitDefEqProofs only [f0, ws, ↓reduceIte, Nat.reduceEqDiff, Nat.reduceAdd, Nat.reduceLeDiff], by simp -implicitDefEqProofs only [f1, ws, ↓reduceIte, Nat.reduceEqDiff, Nat.reduceAdd, Nat.reduceLeDiff], by simp -implicitDefEqProofs only [f7, ws, ↓reduceIte, Nat.reduceEqDiff, Nat.reduceAdd, Nat.reduceLeDiff], by simp -implicitDefEqProofs only [ws, ↓reduceIte, Nat.reduceEqDiff, Nat.reduceAdd, Nat.reduceLeDiff]; rw [wrap64 (by omega)]; rfl, rfl⟩
    rw [if_pos (by simp at g5; omega)] at h
    have hwr : IntKind.wrap .i64 ((j : Int) + 1) = (j : Int) + 1 := wrap64 (by omega)
    refine chooseK_split (fun g6 => ?_) (fun g6 => ?_) <;> simp -implicitDefEqProofs only [g6, f0, f1, f7, f8, ws, ↓reduceIte, Nat.reduceEqDiff, Nat.reduceAdd, Nat.reduceLeDiff]
    · rw [hwr] at g6
      rw [if_pos (by simp at g6; omega)] at h
      exact jst_exit hw (by rfl) (by rfl) h
    · rw [hwr] at g6
      have hj1 : j + 1 ≠ s.length := by simp at g6; omega
      rw [if_neg hj1] at h
      refine ⟨by omega, ?_⟩
      rw [cut_drop]
      have hl2 : 2 ≤ (s.drop j).length := by rw [List.length_drop]; omega
      refine seq_C hl2 (by rw [List.length_drop]; omega) ?_
      have hd := seqS_enc (s.drop j) hl2
      generalize seqS (s.drop j) = d at h hd ⊢
      obtain ⟨r', w'⟩ := d
      dsimp only at h hd ⊢
      rw [List.length_drop] at hd
      simp -implicitDefEqProofs only [f0, f1, f7, f8, ws, ↓reduceIte, Nat.reduceEqDiff, Nat.reduceAdd, Nat.reduceLeDiff]
      refine chooseK_split (fun g7 => ?_) (fun g7 => ?_) <;> simp -implicitDefEqProofs only [g7, f0, f1, f7, f8, ws, ↓reduceIte, Nat.reduceEqDiff, Nat.reduceAdd, Nat.reduceLeDiff]
      · rw [if_pos (by simp at g7; omega)] at h
        exact jst_exit hw (by rfl) (by rfl) h
      · have hw0' : w' ≠ 0 := by simp at g7; omega
        have hd := hd hw0'
        rw [if_neg hw0'] at h
        have hb2 : (b ++ encR r').length ≤ j + w' := by rw [List.length_append]; omega
        refine jst_write hw (by omega) (by unfold big; omega) ?_
        simp -implicitDefEqProofs only [f0, f1, f7, f8, ws, ↓reduceIte, Nat.reduceEqDiff, Nat.reduceAdd, Nat.reduceLeDiff]
        exact ⟨n, by omega, j + w', b ++ encR r', by omega, by omega, by omega, hb2, h, by simp -implicitDefEqProofs only [f0, ws, ↓reduceIte, Nat.reduceEqDiff, Nat.reduceAdd, Nat.reduceLeDiff], by simp -implicitDefEqProofs only [f1, ws, ↓reduceIte, Nat.reduceEqDiff, Nat.reduceAdd, Nat.reduceLeDiff], by simp -implicitDefEqProofs only [f7, ws, ↓reduceIte, Nat.reduceEqDiff, Nat.reduceAdd, Nat.reduceLeDiff], by simp -implicitDefEqProofs only [ws, ↓reduceIte, Nat.reduceEqDiff, Nat.reduceAdd, Nat.reduceLeDiff]; rw [wrap64 (by omega)]; rfl, rfl⟩
  · have hz : strS s i n j b = ([], i, 8) := by
      cases n with
      | zero => rfl
      | succ n => rw [strS, if_pos (by simp at g1; omega)]
    rw [hz] at h
    exact jst_exit hw (by rfl) (by rfl) h
end Go.Proofs.YtgdcdkgmeomhpaaDoor

namespace Go.Proofs
open Go.Shelf

def Tryd.lays174_ren : Go.Shelf.Ren := ⟨fun | 174 => 52 | 247 => 67 | 245 => 68 | 287 => 76 | 279 => 77 | 280 => 78 | 281 => 79 | 282 => 80 | 321 => 84 | 322 => 85 | 316 => 86 | 171 => 88 | 205 => 87 | 243 => 92 | 246 => 93 | 283 => 94 | 284 => 95 | 285 => 96 | 286 => 97 | 129 => 99 | 317 => 98 | 318 => 100 | 319 => 101 | 320 => 102 | 337 => 103 | 338 => 104 | n => n, fun | 9 => 9 | 3 => 3 | 2 => 2 | 75 => 66 | 85 => 87 | 4 => 4 | 167 => 114 | 5 => 5 | 53 => 57 | 175 => 115 | 46 => 58 | 168 => 117 | 37 => 34 | 0 => 0 | 210 => 125 | 21 => 21 | 127 => 82 | 145 => 137 | 143 => 135 | 171 => 139 | 173 => 142 | 212 => 145 | 51 => 77 | 20 => 20 | 213 => 146 | 232 => 150 | 233 => 151 | 80 => 70 | n => n, fun | 15 => 2 | 16 => 3 | 17 => 6 | 18 => 7 | 19 => 8 | n => n⟩
theorem Tryd.lays174 : Go.Proofs.LaysC.n174 Tryd.prog Tryd.lays174_ren where
  mixed := by kernel_rfl
  f129 := Tryd.func99.trans (congrArg some (by kernel_rfl))
  f171 := Tryd.func88.trans (congrArg some (by kernel_rfl))
  f174 := Tryd.func52.trans (congrArg some (by kernel_rfl))
  f205 := Tryd.func87.trans (congrArg some (by kernel_rfl))
  f243 := Tryd.func92.trans (congrArg some (by kernel_rfl))
  f245 := Tryd.func68.trans (congrArg some (by kernel_rfl))
  f246 := Tryd.func93.trans (congrArg some (by kernel_rfl))
  f247 := Tryd.func67.trans (congrArg some (by kernel_rfl))
  f279 := Tryd.func77.trans (congrArg some (by kernel_rfl))
  f280 := Tryd.func78.trans (congrArg some (by kernel_rfl))
  f281 := Tryd.func79.trans (congrArg some (by kernel_rfl))
  f282 := Tryd.func80.trans (congrArg some (by kernel_rfl))
  f283 := Tryd.func94.trans (congrArg some (by kernel_rfl))
  f284 := Tryd.func95.trans (congrArg some (by kernel_rfl))
  f285 := Tryd.func96.trans (congrArg some (by kernel_rfl))
  f286 := Tryd.func97.trans (congrArg some (by kernel_rfl))
  f287 := Tryd.func76.trans (congrArg some (by kernel_rfl))
  f316 := Tryd.func86.trans (congrArg some (by kernel_rfl))
  f317 := Tryd.func98.trans (congrArg some (by kernel_rfl))
  f318 := Tryd.func100.trans (congrArg some (by kernel_rfl))
  f319 := Tryd.func101.trans (congrArg some (by kernel_rfl))
  f320 := Tryd.func102.trans (congrArg some (by kernel_rfl))
  f321 := Tryd.func84.trans (congrArg some (by kernel_rfl))
  f322 := Tryd.func85.trans (congrArg some (by kernel_rfl))
  f337 := Tryd.func103.trans (congrArg some (by kernel_rfl))
  f338 := Tryd.func104.trans (congrArg some (by kernel_rfl))
  t0 := Tryd.underlying0
  a0 := Tryd.isAgg0
  z0 := Tryd.sizeOf0
  v0 := Tryd.zeroValue0
  t2 := Tryd.underlying2
  a2 := Tryd.isAgg2
  z2 := Tryd.sizeOf2
  v2 := Tryd.zeroValue2
  t3 := Tryd.underlying3
  a3 := Tryd.isAgg3
  z3 := Tryd.sizeOf3
  v3 := Tryd.zeroValue3
  t4 := Tryd.underlying4
  a4 := Tryd.isAgg4
  z4 := Tryd.sizeOf4
  v4 := Tryd.zeroValue4
  t5 := Tryd.underlying5
  a5 := Tryd.isAgg5
  z5 := Tryd.sizeOf5
  v5 := Tryd.zeroValue5
  t9 := Tryd.underlying9
  a9 := Tryd.isAgg9
  z9 := Tryd.sizeOf9
  v9 := Tryd.zeroValue9
  t20 := Tryd.underlying20
  a20 := Tryd.isAgg20
  z20 := Tryd.sizeOf20
  v20 := Tryd.zeroValue20
  t21 := Tryd.underlying21
  a21 := Tryd.isAgg21
  z21 := Tryd.sizeOf21
  v21 := Tryd.zeroValue21
  t37 := Tryd.underlying34
  a37 := Tryd.isAgg34
  z37 := Tryd.sizeOf34
  v37 := Tryd.zeroValue34
  t46 := Tryd.underlying58
  a46 := Tryd.isAgg58
  z46 := Tryd.sizeOf58
  v46 := Tryd.zeroValue58
  t51 := Tryd.underlying77
  a51 := Tryd.isAgg77
  z51 := Tryd.sizeOf77
  v51 := Tryd.zeroValue77
  t53 := Tryd.underlying57
  a53 := Tryd.isAgg57
  z53 := Tryd.sizeOf57
  v53 := Tryd.zeroValue57
  t75 := Tryd.underlying66
  a75 := Tryd.isAgg66
  z75 := Tryd.sizeOf66
  v75 := Tryd.zeroValue66
  t85 := Tryd.underlying87
  a85 := Tryd.isAgg87
  z85 := Tryd.sizeOf87
  v85 := Tryd.zeroValue87
  t127 := Tryd.underlying82
  a127 := Tryd.isAgg82
  z127 := Tryd.sizeOf82
  v127 := Tryd.zeroValue82
  t143 := Tryd.underlying135
  a143 := Tryd.isAgg135
  z143 := Tryd.sizeOf135
  v143 := Tryd.zeroValue135
  t145 := Tryd.underlying137
  a145 := Tryd.isAgg137
  z145 := Tryd.sizeOf137
  v145 := Tryd.zeroValue137
  t167 := Tryd.underlying114
  a167 := Tryd.isAgg114
  z167 := Tryd.sizeOf114
  v167 := Tryd.zeroValue114
  t168 := Tryd.underlying117
  a168 := Tryd.isAgg117
  z168 := Tryd.sizeOf117
  v168 := Tryd.zeroValue117
  t171 := Tryd.underlying139
  a171 := Tryd.isAgg139
  z171 := Tryd.sizeOf139
  v171 := Tryd.zeroValue139
  t173 := Tryd.underlying142
  a173 := Tryd.isAgg142
  z173 := Tryd.sizeOf142
  v173 := Tryd.zeroValue142
  t175 := Tryd.underlying115
  a175 := Tryd.isAgg115
  z175 := Tryd.sizeOf115
  v175 := Tryd.zeroValue115
  t210 := Tryd.underlying125
  a210 := Tryd.isAgg125
  z210 := Tryd.sizeOf125
  v210 := Tryd.zeroValue125
  t212 := Tryd.underlying145
  a212 := Tryd.isAgg145
  z212 := Tryd.sizeOf145
  v212 := Tryd.zeroValue145
  t213 := Tryd.underlying146
  a213 := Tryd.isAgg146
  z213 := Tryd.sizeOf146
  t232 := Tryd.underlying150
  a232 := Tryd.isAgg150
  z232 := Tryd.sizeOf150
  v232 := Tryd.zeroValue150
  t233 := Tryd.underlying151
  a233 := Tryd.isAgg151
  z233 := Tryd.sizeOf151
  v233 := Tryd.zeroValue151
  g15 := by kernel_rfl
  g16 := by kernel_rfl
  g17 := by kernel_rfl
  g18 := by kernel_rfl
  g19 := by kernel_rfl
  t80 := Tryd.underlying70
  a80 := Tryd.isAgg70
  z80 := Tryd.sizeOf70
  v80 := Tryd.zeroValue70
  i0 := by kernel_rfl
  i2 := by kernel_rfl
  i3 := by kernel_rfl
  i4 := by kernel_rfl
  i5 := by kernel_rfl
  i9 := by kernel_rfl
  i20 := by kernel_rfl
  i21 := by kernel_rfl
  i37 := by kernel_rfl
  i46 := by kernel_rfl
  i51 := by kernel_rfl
  i53 := by kernel_rfl
  i75 := by kernel_rfl
  i80 := by kernel_rfl
  i85 := by kernel_rfl
  i127 := by kernel_rfl
  i143 := by kernel_rfl
  i145 := by kernel_rfl
  i167 := by kernel_rfl
  i168 := by kernel_rfl
  i171 := by kernel_rfl
  i173 := by kernel_rfl
  i175 := by kernel_rfl
  i210 := by kernel_rfl
  i212 := by kernel_rfl
  i232 := by kernel_rfl
  i233 := by kernel_rfl
  m15 := by kernel_rfl
  m16 := by kernel_rfl
  m17 := by kernel_rfl
  m18 := by kernel_rfl
  m19 := by kernel_rfl
  c0 := by kernel_rfl
  c2 := by kernel_rfl
  c3 := by kernel_rfl
  c4 := by kernel_rfl
  c5 := by kernel_rfl
  c9 := by kernel_rfl
  c20 := by kernel_rfl
  c21 := by kernel_rfl
  c37 := by kernel_rfl
  c46 := by kernel_rfl
  c51 := by kernel_rfl
  c53 := by kernel_rfl
  c75 := by kernel_rfl
  c80 := by kernel_rfl
  c85 := by kernel_rfl
  c127 := by kernel_rfl
  c143 := by kernel_rfl
  c145 := by kernel_rfl
  c167 := by kernel_rfl
  c168 := by kernel_rfl
  c171 := by kernel_rfl
  c173 := by kernel_rfl
  c175 := by kernel_rfl
  c210 := by kernel_rfl
  c212 := by kernel_rfl
  c213 := by kernel_rfl
  c232 := by kernel_rfl
  c233 := by kernel_rfl
def Tryd.lays161_ren : Go.Shelf.Ren := ⟨fun | 161 => 50 | 231 => 62 | 227 => 63 | 233 => 64 | 235 => 65 | 228 => 74 | 197 => 71 | 151 => 75 | 260 => 81 | 152 => 83 | 137 => 48 | 119 => 89 | 224 => 90 | 225 => 91 | 217 => 58 | 266 => 70 | n => n, fun | 9 => 9 | 4 => 4 | 3 => 3 | 5 => 5 | 117 => 102 | 116 => 101 | 0 => 0 | 124 => 105 | 105 => 95 | 21 => 21 | 119 => 128 | 46 => 58 | 139 => 131 | 138 => 130 | n => n, fun | 3 => 4 | 4 => 5 | n => n⟩
theorem Tryd.lays161 : Go.Proofs.Lays.n161 Tryd.prog Tryd.lays161_ren where
  mixed := by kernel_rfl
  f119 := Tryd.func89.trans (congrArg some (by kernel_rfl))
  f137 := Tryd.func48.trans (congrArg some (by kernel_rfl))
  f151 := Tryd.func75.trans (congrArg some (by kernel_rfl))
  f152 := Tryd.func83.trans (congrArg some (by kernel_rfl))
  f161 := Tryd.func50.trans (congrArg some (by kernel_rfl))
  f197 := Tryd.func71.trans (congrArg some (by kernel_rfl))
  f217 := Tryd.func58.trans (congrArg some (by kernel_rfl))
  f224 := Tryd.func90.trans (congrArg some (by kernel_rfl))
  f225 := Tryd.func91.trans (congrArg some (by kernel_rfl))
  f227 := Tryd.func63.trans (congrArg some (by kernel_rfl))
  f228 := Tryd.func74.trans (congrArg some (by kernel_rfl))
  f231 := Tryd.func62.trans (congrArg some (by kernel_rfl))
  f233 := Tryd.func64.trans (congrArg some (by kernel_rfl))
  f235 := Tryd.func65.trans (congrArg some (by kernel_rfl))
  f260 := Tryd.func81.trans (congrArg some (by kernel_rfl))
  f266 := Tryd.func70.trans (congrArg some (by kernel_rfl))
  t0 := Tryd.underlying0
  a0 := Tryd.isAgg0
  z0 := Tryd.sizeOf0
  v0 := Tryd.zeroValue0
  t3 := Tryd.underlying3
  a3 := Tryd.isAgg3
  z3 := Tryd.sizeOf3
  v3 := Tryd.zeroValue3
  t4 := Tryd.underlying4
  a4 := Tryd.isAgg4
  z4 := Tryd.sizeOf4
  v4 := Tryd.zeroValue4
  t5 := Tryd.underlying5
  a5 := Tryd.isAgg5
  z5 := Tryd.sizeOf5
  v5 := Tryd.zeroValue5
  t9 := Tryd.underlying9
  a9 := Tryd.isAgg9
  z9 := Tryd.sizeOf9
  v9 := Tryd.zeroValue9
  t21 := Tryd.underlying21
  a21 := Tryd.isAgg21
  z21 := Tryd.sizeOf21
  v21 := Tryd.zeroValue21
  t46 := Tryd.underlying58
  a46 := Tryd.isAgg58
  z46 := Tryd.sizeOf58
  v46 := Tryd.zeroValue58
  t105 := Tryd.underlying95
  a105 := Tryd.isAgg95
  z105 := Tryd.sizeOf95
  v105 := Tryd.zeroValue95
  t116 := Tryd.underlying101
  a116 := Tryd.isAgg101
  z116 := Tryd.sizeOf101
  t117 := Tryd.underlying102
  a117 := Tryd.isAgg102
  z117 := Tryd.sizeOf102
  v117 := Tryd.zeroValue102
  t119 := Tryd.underlying128
  a119 := Tryd.isAgg128
  z119 := Tryd.sizeOf128
  t124 := Tryd.underlying105
  a124 := Tryd.isAgg105
  z124 := Tryd.sizeOf105
  v124 := Tryd.zeroValue105
  t138 := Tryd.underlying130
  a138 := Tryd.isAgg130
  z138 := Tryd.sizeOf130
  v138 := Tryd.zeroValue130
  t139 := Tryd.underlying131
  a139 := Tryd.isAgg131
  z139 := Tryd.sizeOf131
  v139 := Tryd.zeroValue131
  g3 := by kernel_rfl
  g4 := by kernel_rfl

end Go.Proofs

namespace Go.Vs
open Go.RowKit
section
variable {X : Ctx} {μ : Mem} {w w' : World} {σ : St}

theorem Ev.below (hrel : Rel μ σ w) (hb : Below w.heap.size w w') : Ev μ w μ w' where
  base := rfl
  G := rfl
  size := hb.size
  old b h := hb.block b (Nat.lt_of_lt_of_le h hrel.base)
  cell b j hj := by
    have : b < w.heap.size := by
      apply Classical.byContradiction
      intro h
      rw [hrel.past b (by omega)] at hj
      omega
    simp only [World.cell?, hb.block b this]
  pr _ := Nat.le_refl _
  there b j hj := by
    have : b < w.heap.size := by
      apply Classical.byContradiction
      intro h
      simp [World.cell?, Array.getElem?_eq_none (Nat.le_of_not_lt h)] at hj
    simp only [World.cell?, hb.block b this]
    exact hj
  n := Nat.le_refl _
  ob _ _ := rfl
  nm := Nat.le_refl _
  mb _ _ := rfl
  tl := Nat.le_refl _
  tk _ _ := ⟨Nat.le_refl _, fun _ => ⟨rfl, rfl⟩⟩
  os := hb.os
  tape := hb.tape
  output := hb.output
  shape b c e f hc := by
    have : b < w.heap.size := (Array.getElem?_eq_some_iff.1 hc).1
    exact ⟨c, f, by rw [hb.block b this]; exact hc, fun _ _ h => h⟩
  tt _ _ := rfl

theorem Rel.below (hrel : Rel μ σ w) (hb : Below w.heap.size w w') : Rel μ σ w' where
  n := hrel.n
  nm := hrel.nm
  tl := hrel.tl
  base := Nat.le_trans hrel.base hb.size
  past b h := hrel.past b (Nat.le_trans hb.size h)
  glob g cs hg := by
    obtain ⟨k1, us, k2, k3, k4⟩ := hrel.glob g cs hg
    exact ⟨k1, us, k2.mono (Ev.below hrel hb), range_of_heap (hb.block g (Nat.lt_of_lt_of_le k1 hrel.base)) k3, k4⟩
  obj o cs ho := by
    obtain ⟨k1, k2, k3, us, k4, k5, k6, k7⟩ := hrel.obj o cs ho
    exact ⟨k1, Nat.lt_of_lt_of_le k2 hb.size, k3, us, k4.mono (Ev.below hrel hb), range_of_heap (hb.block _ k2) k5, fun j => by rw [frozen_of_heap (hb.block _ k2)]; exact k6 j, k7⟩
  inj := hrel.inj
  map r es hr := by
    obtain ⟨k1, cl, us, k2, k3, k4⟩ := hrel.map r es hr
    have hlt : μ.mb r < w.heap.size := (Array.getElem?_eq_some_iff.1 k2).1
    exact ⟨k1, cl, us, by rw [hb.block _ hlt]; exact k2, k3, fun j k v e hj hu => ⟨(k4 j k v e hj hu).1.mono (Ev.below hrel hb), (k4 j k v e hj hu).2.mono (Ev.below hrel hb)⟩⟩
  minj := hrel.minj
  tok t ht := by
    obtain ⟨k1, k2, k3⟩ := hrel.tok t ht
    exact ⟨k1, Nat.lt_of_lt_of_le k2 hb.size, k3⟩
  tinj := hrel.tinj
  mo := hrel.mo
  mt := hrel.mt
  tys := hrel.tys
  ty o e ho := (hrel.ty o e ho).mono (Ev.below hrel hb)
  tts := hrel.tts
  tt := hrel.tt

/-- A call after which all that was there is as it was. -/
theorem C_below {f : FuncId} {args : List V} {Q : Out → St → Prop} (hc : callable X.P f = true)
    (h : ∀ μ w us, μ.G = X.G → Rel μ σ w → RVs μ w args us → Calls X.P f us.toArray w fun e w' => Below w.heap.size w w' ∧ ∃ v u, e = .returned u ∧ RV μ w' v u ∧ Q (.ret v) σ) : C X f args σ Q :=
  ⟨hc, fun μ w us hG hrel hus => (h μ w us hG hrel hus).mono fun e w' ⟨hb, v, u, he, hv, hq⟩ =>
    ⟨μ, σ, .ret v, hq, Ev.below hrel hb, hrel.below hb, u, hv, he⟩⟩

theorem RVs.two {a b : V} {us : List Value} (h : RVs μ w [a, b] us) : ∃ x y, us = [x, y] ∧ RV μ w a x ∧ RV μ w b y := by
  obtain ⟨h1, h2⟩ := h
  match us, h1 with
  | [x, y], _ => exact ⟨x, y, rfl, by simpa using h2 0 (by simp), by simpa using h2 1 (by simp)⟩
theorem RVs.three {a b c : V} {us : List Value} (h : RVs μ w [a, b, c] us) : ∃ x y z, us = [x, y, z] ∧ RV μ w a x ∧ RV μ w b y ∧ RV μ w c z := by
  obtain ⟨h1, h2⟩ := h
  match us, h1 with
  | [x, y, z], _ => exact ⟨x, y, z, rfl, by simpa using h2 0 (by simp), by simpa using h2 1 (by simp), by simpa using h2 2 (by simp)⟩
theorem RVs.one {a : V} {us : List Value} (h : RVs μ w [a] us) : ∃ x, us = [x] ∧ RV μ w a x := by
  obtain ⟨h1, h2⟩ := h
  match us, h1 with
  | [x], _ => exact ⟨x, rfl, by simpa using h2 0 (by simp)⟩
end
end Go.Vs

namespace Go.Proofs.YtgdcdkgmeomhpaaDoor
open Go Go.Vs
set_option maxRecDepth 20000
attribute [local irreducible] chooseK

theorem ba_eq (b : ByteArray) : (⟨b.data.toList.toArray⟩ : ByteArray) = b := by cases b; simp

theorem trimLeft_C {s cs : List UInt8} {σ : St} {Q : Out → St → Prop} (hl : cs.length < 4294967281) (ha : ∀ b ∈ cs, b.toNat < 128) (h : Q (.ret (.str (Lib.trimLeftS s cs))) σ) : C Xc 50 [.str s, .str cs] σ Q := by
  refine C_below (cfunc_callable cf_trimLeft) fun μ w us _ _ hus => ?_
  obtain ⟨x, y, rfl, hx, hy⟩ := hus.two
  obtain ⟨sb, rfl, rfl⟩ := hx.ofStr
  obtain ⟨cb, rfl, rfl⟩ := hy.ofStr
  have hc := Go.Proofs.Any.strings_TrimLeft_laid Go.Proofs.Tryd.lays161 (by kernel_rfl) sb cb w (by simpa using hl) (fun j b hj => ha b (List.mem_of_getElem? hj))
  refine Calls.mono hc ?_
  rintro e w' ⟨rfl, hb⟩
  refine ⟨hb, _, _, rfl, ?_, h⟩
  have := RV.str (μ := μ) (w := w') ⟨(Lib.trimLeftS sb.data.toList cb.data.toList).toArray⟩
  simpa using this

/-- What strconv.ParseInt(s, 10, 64) hands back. -/
def pintV (s : List UInt8) : V := match Lib.parseIntB 64 s with
  | .ok v => .tup [.int .i64 v, .nilI]
  | .range => .tup [.int .i64 (Lib.intSat 64 s), .iface 117 (.eptr [])]
  | _ => .tup [.int .i64 0, .iface 117 (.eptr [])]

theorem err_cell {μ : Mem} {w : World} {σ : St} {g : Nat} {t : TypeId} (hG : μ.G = Xc.G) (hrel : Rel μ σ w) (hm : (g, [V.iface t (.eptr [])]) ∈ Gs) : ∃ u, w.cell? ⟨g, 0, none⟩ = some (.iface t u) := by
  obtain ⟨_, us, h1, h2, _⟩ := hrel.glob g _ (by rw [hG, XG]; exact hm)
  obtain ⟨x, rfl, hx⟩ := h1.one
  have hc := h2 0 x rfl
  cases hx with
  | iface t v u hv => exact ⟨u, by simpa using hc⟩

theorem parseInt_C {s : List UInt8} {σ : St} {Q : Out → St → Prop} (hl : s.length ≤ big) (h : Q (.ret (pintV s)) σ) : C Xc 52 [.str s, .int .i64 10, .int .i64 64] σ Q := by
  unfold big at hl
  refine C_below (cfunc_callable cf_parseInt) fun μ w us hG hrel hus => ?_
  obtain ⟨x, y, z, rfl, hx, hy, hz⟩ := hus.three
  obtain ⟨sb, rfl, rfl⟩ := hx.ofStr
  obtain rfl := hy.ofInt
  obtain rfl := hz.ofInt
  have hsz : sb.size ≤ 4294967296 := by simpa using hl
  unfold pintV at h
  have tup2 : ∀ (w' : World) (n : Int) (v : V) (u : Value), RV μ w' v u → RV μ w' (.tup [.int .i64 n, v]) (.tuple #[.int .i64 n, u]) := fun w' n v u hv =>
    .tup _ [.int .i64 n, u] rfl fun i hi => by
      simp only [List.length_cons, List.length_nil] at hi
      rcases (show i = 0 ∨ i = 1 by omega) with rfl | rfl
      · exact .int _ _
      · exact hv
  have perr : ∀ (w' : World) (t : TypeId) (N : Nat), RV μ w' (.iface t (.eptr [])) (.iface t (.pointer (some ⟨N, 0, none⟩))) := fun w' t N =>
    .iface _ _ _ (.eptr [] [] N 0 rfl (fun j v hv => by simp at hv) (Nat.zero_le _) (fun u hu => by cases hu) (fun i hi => by simp at hi))
  rcases hp : Lib.parseIntB 64 sb.data.toList with v | _ | _
  · rw [hp] at h
    refine Calls.mono (Go.Proofs.Any.strconv_ParseInt_10_at64_ok Go.Proofs.Tryd.lays174 sb (by omega) v hp w) ?_
    rintro e w' ⟨rfl, hw⟩
    refine ⟨?_, _, _, rfl, tup2 w' _ _ _ .nilI, h⟩
    rcases hw with rfl | ⟨t, rfl⟩
    · exact Go.RowKit.Below.refl _ _
    · exact Go.Lib.bytesWorld_below _ _ _
  · rw [hp] at h
    obtain ⟨u, hu⟩ := err_cell (g := 2) (t := 135) hG hrel (by simp [Gs])
    refine Calls.mono (Go.Proofs.Any.strconv_ParseInt_10_at64_syntax Go.Proofs.Tryd.lays174 sb (by omega) hp _ w hu (.inr ⟨_, _, rfl⟩)) ?_
    rintro e w' ⟨N, rfl, _, _, hb⟩
    exact ⟨hb, _, _, rfl, tup2 w' _ _ _ (perr w' _ N), h⟩
  · rw [hp] at h
    obtain ⟨u, hu⟩ := err_cell (g := 3) (t := 135) hG hrel (by simp [Gs])
    refine Calls.mono (Go.Proofs.Any.strconv_ParseInt_10_at64_range Go.Proofs.Tryd.lays174 sb (by omega) hp _ w hu (.inr ⟨_, _, rfl⟩)) ?_
    rintro e w' ⟨N, rfl, _, _, hb⟩
    exact ⟨hb, _, _, rfl, tup2 w' _ _ _ (perr w' _ N), h⟩
theorem trimPrefix_C {s p : List UInt8} {σ : St} {Q : Out → St → Prop} (h : Q (.ret (.str (if hasPre s p then s.drop p.length else s))) σ) : C Xc 51 [.str s, .str p] σ Q := by
  refine body cf_trimPrefix (Eq.refl true) ?_
  simp -implicitDefEqProofs only [vf_trimPrefix, ws, ↓reduceIte, Nat.reduceEqDiff, Nat.reduceAdd, Nat.reduceLeDiff]
  refine body cf_slTrimPrefix (Eq.refl true) ?_
  simp -implicitDefEqProofs only [vf_slTrimPrefix, ws, ↓reduceIte, Nat.reduceEqDiff, Nat.reduceAdd, Nat.reduceLeDiff]
  refine slHasPrefix_C ?_
  simp -implicitDefEqProofs only [ws, ↓reduceIte, Nat.reduceEqDiff, Nat.reduceAdd, Nat.reduceLeDiff]
  refine chooseK_split (fun h1 => ?_) (fun h1 => ?_) <;> simp -implicitDefEqProofs only [h1, ws, ↓reduceIte, Nat.reduceEqDiff, Nat.reduceAdd, Nat.reduceLeDiff]
  · rw [if_pos h1] at h
    have hl : p.length ≤ s.length := by
      have := congrArg List.length (eq_of_beq h1)
      rw [List.length_take] at this
      omega
    refine ⟨by omega, ?_⟩
    rw [cut_drop]
    refine .inl ?_
    simp -implicitDefEqProofs only [ws, ↓reduceIte, Nat.reduceEqDiff, Nat.reduceAdd, Nat.reduceLeDiff]
    exact .inl h
  · rw [if_neg (by simp [h1])] at h
    refine .inl ?_
    simp -implicitDefEqProofs only [ws, ↓reduceIte, Nat.reduceEqDiff, Nat.reduceAdd, Nat.reduceLeDiff]
    exact .inl h

theorem pstr_C {s : List UInt8} {i d p : Nat} {σ : St} {Q : Out → St → Prop} (hp : σ.objs[p]? = some (psr s i d)) (hi : i ≤ s.length) (hs : s.length ≤ big)
    (h : if (strP s i).2.2 = 0 then Q (.ret (.str (strP s i).1)) { σ with objs := σ.objs.set p (psr s (strP s i).2.1 d) } else Q (.pan (.iface 50 (.agg [.int .i64 (strP s i).2.1, .int .i64 (strP s i).2.2]))) σ) :
    C Xc 36 [.ref (some (p, 0))] σ Q := by
  refine body cf_pstr (Eq.refl true) ?_
  simp -implicitDefEqProofs only [vf_pstr, hp, ws, ↓reduceIte, Nat.reduceEqDiff, Nat.reduceAdd, Nat.reduceLeDiff]
  refine jsParse_C hi hs ?_
  generalize strP s i = r at h ⊢
  obtain ⟨b, j, e⟩ := r
  dsimp only at h ⊢
  simp -implicitDefEqProofs only [hp, ws, ↓reduceIte, Nat.reduceEqDiff, Nat.reduceAdd, Nat.reduceLeDiff]
  refine chooseK_split (fun h1 => ?_) (fun h1 => ?_) <;> simp -implicitDefEqProofs only [h1, hp, ws, ↓reduceIte, Nat.reduceEqDiff, Nat.reduceAdd, Nat.reduceLeDiff]
  · rw [if_neg (by simp at h1; omega)] at h
    exact .inl h
  · rw [if_pos (by simp at h1; omega)] at h
    exact .inl h

def numSet : List UInt8 := [48, 49, 50, 51, 52, 53, 54, 55, 56, 57, 43, 45, 46, 101, 69]
/-- The number at the head: what it spells, or nothing. -/
def numT (t : List UInt8) : List UInt8 := t.takeWhile (numSet.contains ·)
def numS (d : List UInt8) : Option Int :=
  match Lib.parseIntB 64 d with
  | .ok v => if bN d 0 = 43 ∨ (bN (if hasPre d [45] then d.drop 1 else d) 0 = 48 ∧ 1 < (if hasPre d [45] then d.drop 1 else d).length) then none else some v
  | _ => none

theorem pnumber_C {s : List UInt8} {i d p : Nat} {σ : St} {Q : Out → St → Prop} (hp : σ.objs[p]? = some (psr s i d)) (hi : i ≤ s.length) (hs : s.length ≤ big)
    (h : match numS (numT (s.drop i)) with
      | some v => Q (.ret (.int .i64 v)) { σ with objs := σ.objs.set p (psr s (i + (numT (s.drop i)).length) d) }
      | none => Q (.pan (.iface 50 (.agg [.int .i64 i, .int .i64 15]))) σ) :
    C Xc 37 [.ref (some (p, 0))] σ Q := by
  have hs' := hs
  unfold big at hs'
  refine body cf_pnumber (Eq.refl true) ?_
  simp -implicitDefEqProofs only [vf_pnumber, hp, ws, ↓reduceIte, Nat.reduceEqDiff, Nat.reduceAdd, Nat.reduceLeDiff]
  refine ⟨by omega, ?_⟩
  rw [cut_drop]
  have hsplit : (s.drop i).length = (numT (s.drop i)).length + (Lib.trimLeftS (s.drop i) numSet).length := by
    have := congrArg List.length (List.takeWhile_append_dropWhile (p := (numSet.contains ·)) (l := s.drop i))
    rw [List.length_append] at this
    exact this.symm
  have htake : ∀ k, k = (numT (s.drop i)).length → cut (s.drop i) 0 k = numT (s.drop i) := fun k hk => by
    subst hk
    have := List.takeWhile_append_dropWhile (p := (numSet.contains ·)) (l := s.drop i)
    have h2 : (List.takeWhile (numSet.contains ·) (s.drop i) ++ List.dropWhile (numSet.contains ·) (s.drop i)).take (numT (s.drop i)).length = numT (s.drop i) := List.take_left' rfl
    rw [this] at h2
    simpa only [cut, List.drop_zero] using h2
  have hdl : (s.drop i).length = s.length - i := List.length_drop
  generalize s.drop i = t at h hsplit htake hdl ⊢
  refine trimLeft_C (by decide) (by decide) ?_
  have hnum : ([48, 49, 50, 51, 52, 53, 54, 55, 56, 57, 43, 45, 46, 101, 69] : List UInt8) = numSet := rfl
  rw [hnum]
  generalize Lib.trimLeftS t numSet = r at hsplit ⊢
  simp -implicitDefEqProofs only [hp, ws, ↓reduceIte, Nat.reduceEqDiff, Nat.reduceAdd, Nat.reduceLeDiff]
  have hw : IntKind.wrap .i64 ((t.length : Int) - (r.length : Int)) = ((numT t).length : Int) := by rw [wrap64 (by omega)]; omega
  rw [hw]
  rw [Int.toNat_natCast, htake _ rfl]
  have hn0 : ((numT t).length : Int).toNat = (numT t).length := Int.toNat_natCast _
  have hbd : bN t 0 = bN (numT t) 0 ∨ numT t = [] := by
    cases t with
    | nil => exact .inr rfl
    | cons c t =>
      unfold numT
      rw [List.takeWhile_cons]
      split
      · exact .inl rfl
      · exact .inr rfl
  have htl : (numT t).length ≤ t.length := by omega
  have hcutd := htake _ rfl
  generalize numT t = dd at h hbd hcutd htl hsplit hw ⊢
  refine ⟨by omega, ?_⟩
  refine trimPrefix_C ?_
  simp -implicitDefEqProofs only [hp, hn0, hcutd, ws, ↓reduceIte, Nat.reduceEqDiff, Nat.reduceAdd, Nat.reduceLeDiff]
  refine ⟨by omega, ?_⟩
  refine parseInt_C (by omega) ?_
  unfold pintV
  unfold numS at h
  rcases hpi : Lib.parseIntB 64 dd with v | _ | _
  · rw [hpi] at h
    have hne : dd ≠ [] := fun e => by rw [e] at hpi; cases hpi
    have hne2 : dd ≠ [45] := fun e => by rw [e] at hpi; cases hpi
    have hbd : bN t 0 = bN dd 0 := hbd.resolve_right hne
    have hdl1 : 0 < dd.length := List.length_pos_iff.2 hne
    have hdig : 0 < (if hasPre dd [45] = true then List.drop 1 dd else dd).length := by
      split
      · rename_i hpre
        match dd, hne, hne2, hpre with
        | [c], _, hne2, hpre =>
          have : c = 45 := by simpa [hasPre] using hpre
          rw [this] at hne2
          exact absurd rfl hne2
        | c :: c' :: r, _, _, _ => simp
      · exact hdl1
    generalize hdg : (if hasPre dd [45] = true then List.drop 1 dd else dd) = dg at h hdig
    simp -implicitDefEqProofs only [hp, hdg, ws, ↓reduceIte, Nat.reduceEqDiff, Nat.reduceAdd, Nat.reduceLeDiff]
    refine ⟨by omega, ?_⟩
    have hc0 : (t.getD (Int.toNat 0) 0).toNat = bN dd 0 := hbd
    have hc1 : (dg.getD (Int.toNat 0) 0).toNat = bN dg 0 := rfl
    rw [hc0]
    simp only at h
    refine chooseK_split (fun h1 => ?_) (fun h1 => ?_) <;> simp -implicitDefEqProofs only [h1, hp, hc1, ws, ↓reduceIte, Nat.reduceEqDiff, Nat.reduceAdd, Nat.reduceLeDiff]
    · rw [if_pos (.inl (by simp at h1; omega))] at h
      exact .inl h
    refine ⟨by omega, ?_⟩
    refine chooseK_split (fun h2 => ?_) (fun h2 => ?_) <;> simp -implicitDefEqProofs only [h2, hp, hc1, ws, ↓reduceIte, Nat.reduceEqDiff, Nat.reduceAdd, Nat.reduceLeDiff]
    · refine chooseK_split (fun h3 => ?_) (fun h3 => ?_) <;> simp -implicitDefEqProofs only [h3, hp, hc1, ws, ↓reduceIte, Nat.reduceEqDiff, Nat.reduceAdd, Nat.reduceLeDiff]
      · rw [if_pos (.inr ⟨by simp at h2; omega, by simp at h3; omega⟩)] at h
        exact .inl h
      · rw [if_neg (by simp at h1 h2 h3; omega)] at h
        rw [wrap64 (by omega)]
        exact .inl h
    · rw [if_neg (by simp at h1 h2; omega)] at h
      rw [wrap64 (by omega)]
      exact .inl h
  · rw [hpi] at h
    simp -implicitDefEqProofs only [hp, ws, ↓reduceIte, Nat.reduceEqDiff, Nat.reduceAdd, Nat.reduceLeDiff]
    exact .inl h
  · rw [hpi] at h
    simp -implicitDefEqProofs only [hp, ws, ↓reduceIte, Nat.reduceEqDiff, Nat.reduceAdd, Nat.reduceLeDiff]
    exact .inl h
end Go.Proofs.YtgdcdkgmeomhpaaDoor

namespace Go.Proofs.YtgdcdkgmeomhpaaDoor
open Go Go.Vs
set_option maxRecDepth 20000
attribute [local irreducible] chooseK

/-- A result with the offset behind it, or an offset and an error. -/
abbrev Res (α : Type) := Except (Nat × Nat) (α × Nat)
def wrongR (s : List UInt8) (i : Nat) : Nat × Nat := (i, if i = s.length then 8 else 7)

section
variable {α : Type}
/-- Elements up to a closing byte, with commas between. -/
def loopS (step : Nat → α → Res α) (s : List UInt8) (e : UInt8) : Nat → Nat → α → Res α
  | 0, _, _ => .error (0, 0)
  | n + 1, i, a => match step i a with
    | .error x => .error x
    | .ok (a', i1) =>
      if byteAt s (skipSp s i1) = e then .ok (a', skipSp s i1 + 1)
      else if byteAt s (skipSp s i1) = 44 then loopS step s e n (skipSp s i1 + 1) a'
      else .error (wrongR s (skipSp s i1))
def elemS (step : Nat → α → Res α) (s : List UInt8) (e : UInt8) (i : Nat) (a : α) : Res α :=
  if byteAt s (skipSp s (i + 1)) = e then .ok (a, skipSp s (i + 1) + 1) else loopS step s e (s.length + 1 - skipSp s (i + 1)) (skipSp s (i + 1)) a
end

def jv (k : Int) (b : Bool) (n : Int) (s : List UInt8) (is : List JV) (ms : List JM) (a : Nat) : JV := .mk k b n s false is false ms a

def wordS (s : List UInt8) (j : Nat) (name : List UInt8) (v : JV) : Res JV := if hasPre (s.drop j) name then .ok (v, j + name.length) else .error (j, 7)

def JM.keyOf : JM → List UInt8
  | .mk k _ _ => k

def arrStep (rec : Nat → Res JV) (i : Nat) (a : List JV) : Res (List JV) :=
  match rec i with
  | .error x => .error x
  | .ok (v, i1) => .ok (a ++ [v], i1)

def memS (rec : Nat → Res JV) (s : List UInt8) (i : Nat) (a : List JM) : Res JM :=
  if byteAt s (skipSp s i) ≠ 34 then .error (wrongR s (skipSp s i))
  else if (strP s (skipSp s i)).2.2 ≠ 0 then .error ((strP s (skipSp s i)).2.1, (strP s (skipSp s i)).2.2)
  else if a.any (fun m => m.keyOf == (strP s (skipSp s i)).1) then .error (skipSp s i, 10)
  else if byteAt s (skipSp s (strP s (skipSp s i)).2.1) = 58 then
    match rec (skipSp s (strP s (skipSp s i)).2.1 + 1) with
    | .error x => .error x
    | .ok (v, i1) => .ok (.mk (strP s (skipSp s i)).1 v (skipSp s i), i1)
  else .error (wrongR s (skipSp s (strP s (skipSp s i)).2.1))

def objStep (rec : Nat → Res JV) (s : List UInt8) (i : Nat) (a : List JM) : Res (List JM) :=
  match memS rec s i a with
  | .error x => .error x
  | .ok (m, i1) => .ok (a ++ [m], i1)

def valueF (lim : Bool) (rec : Nat → Res JV) (s : List UInt8) (i : Nat) : Res JV :=
  let j := skipSp s i
  let c := byteAt s j
  if (lim && beginsB c) = true then .error (j, 9)
  else if c = 110 then wordS s j [110, 117, 108, 108] (jv 0 false 0 [] [] [] j)
  else if c = 116 then wordS s j [116, 114, 117, 101] (jv 1 true 0 [] [] [] j)
  else if c = 102 then wordS s j [102, 97, 108, 115, 101] (jv 1 false 0 [] [] [] j)
  else if c = 34 then (if (strP s j).2.2 = 0 then .ok (jv 3 false 0 (strP s j).1 [] [] j, (strP s j).2.1) else .error ((strP s j).2.1, (strP s j).2.2))
  else if c = 45 ∨ (48 ≤ c.toNat ∧ c.toNat ≤ 57) then
    match numS (numT (s.drop j)) with
    | some v => .ok (jv 2 false v [] [] [] j, j + (numT (s.drop j)).length)
    | none => .error (j, 15)
  else if c = 91 then
    match elemS (arrStep rec) s 93 j [] with
    | .ok (is, i1) => .ok (jv 4 false 0 [] is [] j, i1)
    | .error x => .error x
  else if c = 123 then
    match elemS (objStep rec s) s 125 j [] with
    | .ok (ms, i1) => .ok (jv 5 false 0 [] [] ms j, i1)
    | .error x => .error x
  else .error (wrongR s j)

/-- The value at an offset, k levels ahead of the limit. -/
def valueS : Nat → List UInt8 → Nat → Res JV
  | 0, s, i => valueF true (fun _ => .error (0, 0)) s i
  | k + 1, s, i => valueF false (valueS k s) s i

/-- A fault as it is thrown. -/
def faultV (x : Nat × Nat) : V := .iface 50 (.agg [.int .i64 (x.1 : Int), .int .i64 (x.2 : Int)])

/-- What a part of the parser does, the parser standing in the stores S. -/
def ResK {α : Type} (Q : Out → St → Prop) (v : α → V) (S : Nat → Nat → α → St) (d : Nat) (len : Nat) : Res α → Prop
  | .ok (a, j) => Q (.ret (v a)) (S j d a)
  | .error x => ∀ j d' a, j ≤ len → Q (.pan (faultV x)) (S j d' a)

theorem drop_skipSp (s : List UInt8) (i : Nat) : s.drop (skipSp s i) = (s.drop i).dropWhile fun c => spB c.toNat := by
  have h := List.takeWhile_append_dropWhile (p := fun c : UInt8 => spB c.toNat) (l := s.drop i)
  unfold skipSp
  rw [← List.drop_drop]
  conv => lhs; arg 2; rw [← h]
  rw [List.drop_left' rfl]
theorem skipSp_idem (s : List UInt8) (i : Nat) : skipSp s (skipSp s i) = skipSp s i := by
  have h : ((s.drop i).dropWhile fun c => spB c.toNat).takeWhile (fun c => spB c.toNat) = [] := by
    generalize s.drop i = l
    induction l with
    | nil => rfl
    | cons c l ih =>
      rw [List.dropWhile_cons]
      split
      · exact ih
      · rename_i hc
        rw [List.takeWhile_cons, if_neg hc]
  have e : skipSp s (skipSp s i) = skipSp s i + ((s.drop (skipSp s i)).takeWhile fun c => spB c.toNat).length := rfl
  rw [e, drop_skipSp, h]
  rfl

theorem faultV_wrong (s : List UInt8) (i : Nat) : faultV (wrongR s i) = .iface 50 (.agg [.int .i64 (i : Int), .int .i64 (if i = s.length then 8 else 7)]) := by
  unfold faultV wrongR
  dsimp only
  split <;> rfl
theorem ResK_ok {α : Type} {Q : Out → St → Prop} {v : α → V} {S : Nat → Nat → α → St} {d len : Nat} {a : α} {j : Nat} : ResK Q v S d len (.ok (a, j)) = Q (.ret (v a)) (S j d a) := rfl
theorem ResK_error {α : Type} {Q : Out → St → Prop} {v : α → V} {S : Nat → Nat → α → St} {d len : Nat} {x : Nat × Nat} : ResK Q v S d len (.error x) = ∀ j d' a, j ≤ len → Q (.pan (faultV x)) (S j d' a) := rfl

theorem elements_C {α : Type} {I : Nat → α → Prop} {s : List UInt8} {e : UInt8} {p : Nat} {g : FuncId} {caps : List V} {S : Nat → Nat → α → St} {step : Nat → α → Res α} {i d : Nat} {a : α} {Q : Out → St → Prop} (he : e ≠ 0)
    (hS : ∀ j d a, (S j d a).objs[p]? = some (psr s j d)) (hset : ∀ j d a j' d', { S j d a with objs := (S j d a).objs.set p (psr s j' d') } = S j' d' a) (hs : s.length ≤ big) (hd : d ≤ 1000) (hi : i < s.length)
    (hprog : ∀ i a a' i1, i ≤ s.length → step i a = .ok (a', i1) → i ≤ i1 ∧ i1 ≤ s.length)
    (hI0 : ∀ j, i < j → I j a) (hI : ∀ i a a' i1 j, i ≤ s.length → I i a → step i a = .ok (a', i1) → i1 + 1 ≤ j → I j a')
    (hel : ∀ (j : Nat) (a : α) (Q' : Out → St → Prop), j ≤ s.length → I j a → ResK Q' (fun _ => V.und) S (d + 1) s.length (step j a) → C Xc g caps (S j (d + 1) a) Q')
    (h : ResK Q (fun _ => V.und) S d s.length (elemS step s e i a)) : C Xc 38 [.ref (some (p, 0)), .int .u8 (e.toNat : Int), .fn (.func g) [] caps] (S i d a) Q := by
  have hs' := hs
  unfold big at hs'
  have hG : ∀ (j d : Nat) (a : α) (x : List V), ((S j d a).objs.set p x)[p]? = some x := fun j d a x => set_get (hS j d a)
  have hst : ∀ (j d : Nat) (a : α) (J D : Nat), (⟨(S j d a).objs.set p [.str s, .int .i64 (J : Int), .int .i64 (D : Int)], (S j d a).maps, (S j d a).toks, (S j d a).tys, (S j d a).tts⟩ : St) = S J D a := fun j d a J D => hset j d a J D
  have w0 : ∀ n : Nat, n ≤ 4294967300 → IntKind.wrap .i64 ((n : Int) + 1) = ((n + 1 : Nat) : Int) := fun n hn => by rw [wrap64 (by omega)]; omega
  have wm : ∀ n : Nat, n ≤ 4294967300 → IntKind.wrap .i64 (((n + 1 : Nat) : Int) - 1) = ((n : Nat) : Int) := fun n hn => by rw [wrap64 (by omega)]; omega
  have hE : (e.toNat : Int) = (e.toNat : Int) := rfl
  have tst : ∀ j : Nat, j ≤ s.length → ((((byteAt s j).toNat : Int) == (e.toNat : Int)) = true ↔ byteAt s j = e) := fun j _ => by
    rw [beq_iff_eq]
    constructor
    · intro h; exact UInt8.toNat_inj.1 (by omega)
    · intro h; rw [h]
  refine body cf_elements (Eq.refl true) ?_
  simp -implicitDefEqProofs only [vf_elements, hS, hG, List.set_set, w0 d (by omega), w0 i (by omega), hst, ws, ↓reduceIte, Nat.reduceEqDiff, Nat.reduceAdd, Nat.reduceLeDiff]
  refine peek_C (hS _ _ _) (by omega) hs ?_
  rw [hset]
  have hle := skipSp_le (s := s) (i := i + 1) (by omega)
  unfold elemS at h
  simp -implicitDefEqProofs only [ws, ↓reduceIte, Nat.reduceEqDiff, Nat.reduceAdd, Nat.reduceLeDiff]
  refine chooseK_split (fun h1 => ?_) (fun h1 => ?_) <;> simp -implicitDefEqProofs only [h1, ws, ↓reduceIte, Nat.reduceEqDiff, Nat.reduceAdd, Nat.reduceLeDiff]
  · have h1' := (tst _ hle).1 h1
    rw [if_pos h1'] at h
    simp -implicitDefEqProofs only [hS, hG, List.set_set, w0 (skipSp s (i + 1)) (by omega), wm d (by omega), hst, ws, ↓reduceIte, Nat.reduceEqDiff, Nat.reduceAdd, Nat.reduceLeDiff]
    exact .inl h
  have h1' : ¬ byteAt s (skipSp s (i + 1)) = e := fun hh => by rw [(tst _ hle).2 hh] at h1; cases h1
  rw [if_neg h1'] at h
  refine LoopP.intro (fun n fr σ' => ∃ (j : Nat) (a' : α), j ≤ s.length ∧ s.length < j + n ∧ I j a' ∧ fr 0 = .ref (some (p, 0)) ∧ fr 1 = .int .u8 (e.toNat : Int) ∧ fr 2 = .fn (.func g) [] caps ∧ σ' = S j (d + 1) a' ∧ ResK Q (fun _ => V.und) S d s.length (loopS step s e n j a'))
    (s.length + 1 - skipSp s (i + 1)) ⟨skipSp s (i + 1), a, hle, by omega, hI0 _ (by have := skipSp_ge s (i + 1); omega), by simp -implicitDefEqProofs only [ws, ↓reduceIte, Nat.reduceEqDiff, Nat.reduceAdd, Nat.reduceLeDiff], by simp -implicitDefEqProofs only [ws, ↓reduceIte, Nat.reduceEqDiff, Nat.reduceAdd, Nat.reduceLeDiff], by simp -implicitDefEqProofs only [ws, ↓reduceIte, Nat.reduceEqDiff, Nat.reduceAdd, Nat.reduceLeDiff], rfl, h⟩ ?_
  clear h h1 h1'
  rintro n fr σ' ⟨j, a', hj, hjn, hIj, f0, f1, f2, rfl, h⟩
  obtain ⟨n, rfl⟩ : ∃ m, n = m + 1 := ⟨n - 1, by omega⟩
  rw [loopS] at h
  simp -implicitDefEqProofs only [f0, f1, f2, ws, ↓reduceIte, Nat.reduceEqDiff, Nat.reduceAdd, Nat.reduceLeDiff]
  refine hel j a' _ hj hIj ?_
  cases hst' : step j a' with
  | error x =>
    rw [hst'] at h
    intro j' d' a'' hj'
    simp -implicitDefEqProofs only [ws, ↓reduceIte, Nat.reduceEqDiff, Nat.reduceAdd, Nat.reduceLeDiff]
    exact .inl (h j' d' a'' hj')
  | ok r =>
    obtain ⟨a2, i1⟩ := r
    rw [hst'] at h
    obtain ⟨hp1, hp2⟩ := hprog j a' a2 i1 hj hst'
    have hle2 := skipSp_le (s := s) (i := i1) hp2
    have hge2 := skipSp_ge s i1
    rw [ResK_ok]
    simp -implicitDefEqProofs only [f0, f1, f2, ws, ↓reduceIte, Nat.reduceEqDiff, Nat.reduceAdd, Nat.reduceLeDiff]
    refine peek_C (hS _ _ _) hp2 hs ?_
    rw [hset]
    simp -implicitDefEqProofs only [f0, f1, f2, ws, ↓reduceIte, Nat.reduceEqDiff, Nat.reduceAdd, Nat.reduceLeDiff]
    refine chooseK_split (fun h2 => ?_) (fun h2 => ?_) <;> simp -implicitDefEqProofs only [h2, f0, f1, f2, ws, ↓reduceIte, Nat.reduceEqDiff, Nat.reduceAdd, Nat.reduceLeDiff]
    · have h2' := (tst _ hle2).1 h2
      simp only [if_pos h2'] at h
      simp -implicitDefEqProofs only [f0, hS, hG, List.set_set, w0 (skipSp s i1) (by omega), wm d (by omega), hst, ws, ↓reduceIte, Nat.reduceEqDiff, Nat.reduceAdd, Nat.reduceLeDiff]
      exact .inl h
    · have h2' : ¬ byteAt s (skipSp s i1) = e := fun hh => by rw [(tst _ hle2).2 hh] at h2; cases h2
      simp only [if_neg h2'] at h
      refine expect_C (c := 44) (hS _ _ _) hle2 hs ?_
      rw [skipSp_idem]
      simp only [hset]
      by_cases h3 : byteAt s (skipSp s i1) = 44
      · have h3' : skipSp s i1 ≠ s.length := fun hh => by rw [byteAt_end (by omega)] at h3; cases h3
        rw [if_pos ⟨h3, h3'⟩]
        rw [if_pos h3] at h
        simp -implicitDefEqProofs only [f0, f1, f2, ws, ↓reduceIte, Nat.reduceEqDiff, Nat.reduceAdd, Nat.reduceLeDiff]
        refine ⟨n, by omega, skipSp s i1 + 1, a2, by omega, by omega, hI j a' a2 i1 _ hj hIj hst' (by omega), by simp -implicitDefEqProofs only [f0, ws, ↓reduceIte, Nat.reduceEqDiff, Nat.reduceAdd, Nat.reduceLeDiff], by simp -implicitDefEqProofs only [f1, ws, ↓reduceIte, Nat.reduceEqDiff, Nat.reduceAdd, Nat.reduceLeDiff], by simp -implicitDefEqProofs only [f2, ws, ↓reduceIte, Nat.reduceEqDiff, Nat.reduceAdd, Nat.reduceLeDiff], rfl, h⟩
      · rw [if_neg (fun hh => h3 hh.1)]
        rw [if_neg h3] at h
        simp -implicitDefEqProofs only [ws, ↓reduceIte, Nat.reduceEqDiff, Nat.reduceAdd, Nat.reduceLeDiff]
        rw [ResK_error, faultV_wrong] at h
        exact .inl (h _ _ _ hle2)
end Go.Proofs.YtgdcdkgmeomhpaaDoor

namespace Go.Proofs.YtgdcdkgmeomhpaaDoor
open Go Go.Vs
set_option maxRecDepth 20000
attribute [local irreducible] chooseK

/-- The parser's store, its parser elsewhere. -/
def pst (σ : St) (p : Nat) (s : List UInt8) (j d : Nat) : St := { σ with objs := σ.objs.set p (psr s j d) }
abbrev VRes {α : Type} (Q : Out → St → Prop) (v : α → V) (σ : St) (p : Nat) (s : List UInt8) (d : Nat) (r : Res α) : Prop :=
  match r with
  | .ok (a, j) => Q (.ret (v a)) (pst σ p s j d)
  | .error x => ∀ j d', j ≤ s.length → Q (.pan (faultV x)) (pst σ p s j d')
theorem VRes_ok {α : Type} {Q : Out → St → Prop} {v : α → V} {σ : St} {p : Nat} {s : List UInt8} {d : Nat} {a : α} {j : Nat} : VRes Q v σ p s d (.ok (a, j)) = Q (.ret (v a)) (pst σ p s j d) := rfl
theorem wrongH {α : Type} {Q : Out → St → Prop} {v : α → V} {σ : St} {p : Nat} {s : List UInt8} {d j j' d' : Nat} (h : VRes Q v σ p s d (.error (wrongR s j))) (hj : j' ≤ s.length) :
    Q (.pan (.iface 50 (.agg [.int .i64 (j : Int), .int .i64 (if j = s.length then 8 else 7)]))) (pst σ p s j' d') := by
  have := h j' d' hj
  rwa [faultV_wrong] at this
/-- The contract of 'value', at depth d. -/
def ValC (s : List UInt8) (p d : Nat) (rec : Nat → Res JV) : Prop :=
  ∀ (i : Nat) (σ : St) (Q : Out → St → Prop), σ.objs[p]? = some (psr s i d) → i ≤ s.length → VRes Q JV.enc σ p s d (rec i) → C Xc 25 [.ref (some (p, 0))] σ Q

/-- What a parser's function made is forgotten. -/
theorem exitP {σ : St} (hw : σ.wf) {p : Nat} {s : List UInt8} {j d : Nat} {xo : List (List V)} {xt : List Nat} {xy xtt : List TypeId} {Q : Out → St → Prop} {out : Out} (hlt : p < σ.objs.length)
    (hf : (out.clean σ.toks.length).fits σ.objs.length σ.maps.length σ.toks.length = true) (h : Q (out.clean σ.toks.length) (pst σ p s j d)) :
    ExitOk σ Q out ⟨σ.objs.set p (psr s j d) ++ xo, σ.maps, σ.toks ++ xt, σ.tys ++ xy, σ.tts ++ xtt⟩ := by
  have := exitCut (σ0 := σ) (O := σ.objs.set p (psr s j d)) (xo := xo) (M := σ.maps) (xm := []) (T := σ.toks) (xt := xt) (Y := σ.tys) (xy := xy) (TT := σ.tts) (xtt := xtt) (Q := Q) (out := out) (by simp) rfl rfl (by simpa using hw.1) hw.2
    (by simpa using hf) (fun o cs ho => by
      by_cases e : o = p
      · subst e
        rw [List.getElem?_set_self hlt] at ho
        cases ho
        exact .inr (by simp [fitsL, V.fits])
      · rw [List.getElem?_set_ne (Ne.symm e)] at ho
        exact .inl ho) (fun r es hr => .inl hr) h
  simpa using this

theorem exitP0 {σ : St} (hw : σ.wf) {p : Nat} {s : List UInt8} {j d : Nat} {xo : List (List V)} {xy : List TypeId} {Q : Out → St → Prop} {out : Out} (hlt : p < σ.objs.length)
    (hf : (out.clean σ.toks.length).fits σ.objs.length σ.maps.length σ.toks.length = true) (h : Q (out.clean σ.toks.length) (pst σ p s j d)) :
    ExitOk σ Q out ⟨σ.objs.set p (psr s j d) ++ xo, σ.maps, σ.toks, σ.tys ++ xy, σ.tts⟩ := by
  have := exitP (xt := []) (xtt := []) (xy := xy) (xo := xo) hw hlt hf h
  simpa using this
/-- A fault leaves. -/
theorem exitF {σ : St} (hw : σ.wf) {p : Nat} {s : List UInt8} {j d : Nat} {xo : List (List V)} {xy : List TypeId} {Q : Out → St → Prop} {a b : Int} (hlt : p < σ.objs.length)
    (h : Q (.pan (.iface 50 (.agg [.int .i64 a, .int .i64 b]))) (pst σ p s j d)) :
    ExitOk σ Q (.pan (.iface 50 (.agg [.int .i64 a, .int .i64 b]))) ⟨σ.objs.set p (psr s j d) ++ xo, σ.maps, σ.toks, σ.tys ++ xy, σ.tts⟩ :=
  exitP0 hw hlt (by simp [Out.clean, Out.fits, V.clean, V.fits, cleanL, fitsL]) (by simpa [Out.clean, V.clean, cleanL] using h)

theorem faultV_clean (k : Nat) (x : Nat × Nat) : Out.clean k (.pan (faultV x)) = .pan (faultV x) := by simp [Out.clean, faultV, V.clean, cleanL]
theorem faultV_fits (n nm k : Nat) (x : Nat × Nat) : Out.fits n nm k (.pan (faultV x)) = true := by simp [Out.fits, faultV, V.fits, fitsL]

theorem member1_C {m : JM} {mo : Nat} {key : List UInt8} {rest : List V} {σ : St} {Q : Out → St → Prop} (hm : σ.objs[mo]? = some (.str key :: rest)) (h : Q (.ret (.bool (m.keyOf == key))) σ) : C Xc 55 [m.enc, .ref (some (mo, 0))] σ Q := by
  obtain ⟨k, v, a⟩ := m
  have hlt := (List.getElem?_eq_some_iff.1 hm).1
  refine bodyW cf_member1 (Eq.refl true) fun hw => ?_
  simp -implicitDefEqProofs only [vf_member1, JM.enc, JM.cells, app_get _ _ (Eq.refl σ.objs.length), app_low _ hm, ws, ↓reduceIte, Nat.reduceEqDiff, Nat.reduceAdd, Nat.reduceLeDiff]
  exact exitNew hw (by rfl) (by rfl) h

theorem JM.keyOf_cells (m : JM) : ∃ r, m.cells = .str m.keyOf :: r := by cases m; exact ⟨_, rfl⟩
theorem encMs_len (ms : List JM) : (encMs ms).length = ms.length := by induction ms with | nil => rfl | cons m r ih => simp [encMs, ih]
theorem encL_len (l : List JV) : (encL l).length = l.length := by induction l with | nil => rfl | cons m r ih => simp [encL, ih]
theorem encMs_get (ms : List JM) : ∀ (i : Nat), i < ms.length → (encMs ms).getD i .und = (ms.getD i (.mk [] (jv 0 false 0 [] [] [] 0) 0)).enc := by
  induction ms with
  | nil => intro i hi; simp at hi
  | cons m r ih =>
    intro i hi
    cases i with
    | zero => simp [encMs, JM.enc]
    | succ i => simpa [encMs] using ih i (by simpa using hi)
theorem encMs_cells (ms : List JM) : ∀ y ∈ encMs ms, y.cells.length = 9 := by
  induction ms with
  | nil => intro y hy; cases hy
  | cons m r ih =>
    intro y hy
    simp only [encMs, List.mem_cons] at hy
    rcases hy with rfl | hy
    · simp [V.cells, JM.len]
    · exact ih y hy
theorem encL_cells (l : List JV) : ∀ y ∈ encL l, y.cells.length = 7 := by
  induction l with
  | nil => intro y hy; cases hy
  | cons m r ih =>
    intro y hy
    simp only [encL, List.mem_cons] at hy
    rcases hy with rfl | hy
    · simp [V.cells, JV.len]
    · exact ih y hy

/-- A slice of members, as it is handed on. -/
def msV (nn : Bool) (ms : List JM) (tk : Tk) : V := .slc nn (encMs ms) tk

theorem contF_C {ms : List JM} {nn : Bool} {tk : Tk} {mo : Nat} {key : List UInt8} {rest : List V} {σ : St} {Q : Out → St → Prop} (hnn : nn = false → ms = []) (hl : ms.length ≤ big) (hm : σ.objs[mo]? = some (.str key :: rest))
    (h : Q (.ret (.bool (ms.any fun m => m.keyOf == key))) σ) : C Xc 54 [.slc nn (encMs ms) tk, .fn (.func 55) [] [.ref (some (mo, 0))]] σ Q := by
  unfold big at hl
  refine body cf_contF (Eq.refl true) ?_
  simp -implicitDefEqProofs only [vf_contF, ws, ↓reduceIte, Nat.reduceEqDiff, Nat.reduceAdd, Nat.reduceLeDiff]
  refine body cf_idxF (Eq.refl true) ?_
  simp -implicitDefEqProofs only [vf_idxF, encMs_len, ws, ↓reduceIte, Nat.reduceEqDiff, Nat.reduceAdd, Nat.reduceLeDiff]
  refine LoopP.intro (fun n fr σ' => ∃ j : Nat, j ≤ ms.length ∧ n = ms.length - j ∧ (∀ i, i < j → ((ms.getD i (.mk [] (jv 0 false 0 [] [] [] 0) 0)).keyOf == key) = false) ∧ fr 0 = .slc nn (encMs ms) tk ∧ fr 1 = .fn (.func 55) [] [.ref (some (mo, 0))] ∧ fr 8 = .int .i64 (j : Int) ∧ fr 7 = .int .i64 (ms.length : Int) ∧ σ' = σ) ms.length
    ⟨0, by omega, by omega, fun i hi => by omega, by simp -implicitDefEqProofs only [ws, ↓reduceIte, Nat.reduceEqDiff, Nat.reduceAdd, Nat.reduceLeDiff], by simp -implicitDefEqProofs only [ws, ↓reduceIte, Nat.reduceEqDiff, Nat.reduceAdd, Nat.reduceLeDiff], by simp -implicitDefEqProofs only [ws, ↓reduceIte, Nat.reduceEqDiff, Nat.reduceAdd, Nat.reduceLeDiff]; rfl, by simp -implicitDefEqProofs only [ws, ↓reduceIte, Nat.reduceEqDiff, Nat.reduceAdd, Nat.reduceLeDiff], rfl⟩ ?_
  rintro n fr σ' ⟨j, hj, rfl, hno, f0, f1, f8, f7, rfl⟩
  simp -implicitDefEqProofs only [f0, f1, f8, f7, ws, ↓reduceIte, Nat.reduceEqDiff, Nat.reduceAdd, Nat.reduceLeDiff]
  refine chooseK_split (fun h1 => ?_) (fun h1 => ?_) <;> simp -implicitDefEqProofs only [h1, f0, f1, f8, f7, ws, ↓reduceIte, Nat.reduceEqDiff, Nat.reduceAdd, Nat.reduceLeDiff]
  · have hjl : j < ms.length := by simp at h1; omega
    have hlen9 : (encMs ms).length = ms.length := encMs_len ms
    refine ⟨by omega, encMs_cells ms, ?_⟩
    rw [encMs_get ms j hjl]
    generalize hmj : ms.getD j (.mk [] (jv 0 false 0 [] [] [] 0) 0) = mj
    have h9 : mj.cells.length = 9 := JM.len mj
    have ht9 : List.take 9 mj.cells = mj.cells := List.take_of_length_le (by omega)
    simp -implicitDefEqProofs only [JM.enc, ht9, ws, ↓reduceIte, Nat.reduceEqDiff, Nat.reduceAdd, Nat.reduceLeDiff]
    refine ⟨by omega, ?_⟩
    refine member1_C hm ?_
    simp -implicitDefEqProofs only [f0, f1, f8, f7, ws, ↓reduceIte, Nat.reduceEqDiff, Nat.reduceAdd, Nat.reduceLeDiff]
    have hany : ms.any (fun m => m.keyOf == key) = true ∨ (mj.keyOf == key) = false := by
      cases hk : mj.keyOf == key with
      | false => exact .inr rfl
      | true =>
        refine .inl (List.any_eq_true.2 ⟨mj, ?_, hk⟩)
        rw [← hmj, List.getD_eq_getElem?_getD, List.getElem?_eq_getElem hjl]
        exact List.getElem_mem hjl
    refine chooseK_split (fun h2 => ?_) (fun h2 => ?_) <;> simp -implicitDefEqProofs only [h2, f0, f1, f8, f7, ws, ↓reduceIte, Nat.reduceEqDiff, Nat.reduceAdd, Nat.reduceLeDiff]
    · refine .inl ?_
      have hge : decide ((j : Int) ≥ 0) = true := decide_eq_true (by omega)
      simp -implicitDefEqProofs only [hge, ws, ↓reduceIte, Nat.reduceEqDiff, Nat.reduceAdd, Nat.reduceLeDiff]
      rw [hany.resolve_right (by rw [h2]; simp)] at h
      exact .inl h
    · rw [wrap64 (by omega)]
      refine ⟨ms.length - (j + 1), by omega, j + 1, by omega, rfl, fun i hi => ?_, by simp -implicitDefEqProofs only [f0, ws, ↓reduceIte, Nat.reduceEqDiff, Nat.reduceAdd, Nat.reduceLeDiff], by simp -implicitDefEqProofs only [f1, ws, ↓reduceIte, Nat.reduceEqDiff, Nat.reduceAdd, Nat.reduceLeDiff], by simp -implicitDefEqProofs only [ws, ↓reduceIte, Nat.reduceEqDiff, Nat.reduceAdd, Nat.reduceLeDiff]; rfl, by simp -implicitDefEqProofs only [f7, ws, ↓reduceIte, Nat.reduceEqDiff, Nat.reduceAdd, Nat.reduceLeDiff], rfl⟩
      by_cases e : i = j
      · subst e; rw [hmj]; exact h2
      · exact hno i (by omega)
  · refine .inl ?_
    have hj2 : j = ms.length := by simp at h1; omega
    have : decide ((-1 : Int) ≥ 0) = false := rfl
    simp -implicitDefEqProofs only [this, ws, ↓reduceIte, Nat.reduceEqDiff, Nat.reduceAdd, Nat.reduceLeDiff]
    have hf : ms.any (fun m => m.keyOf == key) = false := by
      rw [List.any_eq_false]
      intro m hm'
      obtain ⟨i, hi, rfl⟩ := List.getElem_of_mem hm'
      have := hno i (by omega)
      rw [List.getD_eq_getElem?_getD, List.getElem?_eq_getElem hi] at this
      simpa using this
    rw [hf] at h
    exact .inl h

theorem strS_le (s : List UInt8) (a : Nat) (ha : a ≤ s.length) : ∀ (k i : Nat) (b : List UInt8), i ≤ s.length → (strS s a k i b).2.1 ≤ s.length ∧ ((strS s a k i b).2.2 = 0 → i < (strS s a k i b).2.1)
  | 0, i, b, hi => by simp [strS]; exact ha
  | k + 1, i, b, hi => by
    unfold strS
    split
    · exact ⟨ha, fun h => by cases h⟩
    rename_i h0
    dsimp only
    split
    · exact ⟨hi, fun h => by cases h⟩
    rename_i h1
    have hd := decT_enc (s.drop i) h1
    rw [List.length_drop] at hd
    split
    · exact ⟨hi, fun h => by cases h⟩
    split
    · exact ⟨by dsimp only; omega, fun _ => by dsimp only; omega⟩
    split
    · split
      · exact ⟨ha, fun h => by cases h⟩
      · split
        · exact ⟨hi, fun h => by cases h⟩
        · rename_i h2 h3
          have hq := seqS_enc (s.drop i) (by rw [List.length_drop]; omega) h3
          rw [List.length_drop] at hq
          have := strS_le s a ha k (i + (seqS (s.drop i)).2) (b ++ encR (seqS (s.drop i)).1) (by omega)
          exact ⟨this.1, fun h => by have := this.2 h; omega⟩
    · have := strS_le s a ha k (i + (decT (s.drop i)).2) (b ++ encR (decT (s.drop i)).1) (by omega)
      exact ⟨this.1, fun h => by have := this.2 h; omega⟩
theorem strP_le {s : List UInt8} {i : Nat} (hi : i ≤ s.length) : (strP s i).2.1 ≤ s.length ∧ ((strP s i).2.2 = 0 → i < (strP s i).2.1) := by
  unfold strP
  split
  · rename_i h
    have := strS_le s i hi (s.length - i) (i + 1) [] (by omega)
    exact ⟨this.1, fun h => by have := this.2 h; omega⟩
  · exact ⟨hi, fun h => by cases h⟩

theorem pmember_C {s : List UInt8} {p d : Nat} {rec : Nat → Res JV} (hrec : ValC s p d rec) {i : Nat} {ms : List JM} {nn : Bool} {tk : Tk} {σ : St} {Q : Out → St → Prop} (hp : σ.objs[p]? = some (psr s i d)) (hi : i ≤ s.length) (hs : s.length ≤ big) (hnn : nn = false → ms = []) (hl : ms.length ≤ big)
    (hprog : ∀ i v i1, i ≤ s.length → rec i = .ok (v, i1) → i ≤ i1 ∧ i1 ≤ s.length)
    (h : VRes Q JM.enc σ p s d (memS rec s i ms)) : C Xc 41 [.ref (some (p, 0)), .slc nn (encMs ms) tk] σ Q := by
  have hlt : p < σ.objs.length := (List.getElem?_eq_some_iff.1 hp).1
  have hs' := hs
  unfold big at hs'
  have hle := skipSp_le hi
  refine bodyW cf_pmember (Eq.refl true) fun hw => ?_
  simp -implicitDefEqProofs only [vf_pmember, ws, ↓reduceIte, Nat.reduceEqDiff, Nat.reduceAdd, Nat.reduceLeDiff]
  refine peek_C (app_low _ hp) hi hs ?_
  have hsl : ∀ (x : List V) (r : List (List V)), (σ.objs ++ r).set p x = σ.objs.set p x ++ r := fun x r => set_low x r hlt
  have hsl2 : ∀ (x y : List V) (r : List (List V)), (σ.objs.set p y ++ r).set p x = σ.objs.set p x ++ r := fun x y r => by
    rw [set_low x r (by simpa using hlt), List.set_set]
  have hgp : ∀ (y : List V) (r : List (List V)), (σ.objs.set p y ++ r)[p]? = some y := fun y r => app_low r (set_get hp)
  have hl0 : ∀ y : List V, (σ.objs.set p y).length = σ.objs.length := fun y => by simp
  simp -implicitDefEqProofs only [hsl, ws, ↓reduceIte, Nat.reduceEqDiff, Nat.reduceAdd, Nat.reduceLeDiff]
  unfold memS at h
  refine chooseK_split (fun h1 => ?_) (fun h1 => ?_) <;> simp -implicitDefEqProofs only [h1, ws, ↓reduceIte, Nat.reduceEqDiff, Nat.reduceAdd, Nat.reduceLeDiff]
  · have h1' : byteAt s (skipSp s i) ≠ 34 := fun hh => by rw [hh] at h1; cases h1
    rw [if_pos h1'] at h
    refine wrong_C (hgp _ _) ?_
    simp -implicitDefEqProofs only [ws, ↓reduceIte, Nat.reduceEqDiff, Nat.reduceAdd, Nat.reduceLeDiff]
    exact exitF hw hlt (wrongH h hle)
  have h1' : ¬ byteAt s (skipSp s i) ≠ 34 := fun hh => by
    simp only [bne_eq_false_iff_eq] at h1
    exact hh (UInt8.toNat_inj.1 (by show _ = 34; omega))
  rw [if_neg h1'] at h
  simp -implicitDefEqProofs only [hgp, hsl2, List.length_set, List.append_assoc, app_get _ _ (hl0 _), app_get1 _ _ _ (hl0 _), app_set1 _ _ _ _ (hl0 _), app_set _ _ _ (hl0 _), ws, ↓reduceIte, Nat.reduceEqDiff, Nat.reduceAdd, Nat.reduceLeDiff]
  have hsp := strP_le hle
  refine pstr_C (hgp _ _) hle hs ?_
  by_cases h2 : (strP s (skipSp s i)).2.2 = 0
  case neg =>
    rw [if_pos h2] at h
    rw [if_neg h2]
    simp -implicitDefEqProofs only [ws, ↓reduceIte, Nat.reduceEqDiff, Nat.reduceAdd, Nat.reduceLeDiff]
    exact exitF hw hlt (h _ _ hle)
  rw [if_neg (fun hh => hh h2)] at h
  rw [if_pos h2]
  simp -implicitDefEqProofs only [hgp, hsl2, List.length_set, List.append_assoc, app_get _ _ (hl0 _), app_get1 _ _ _ (hl0 _), app_set1 _ _ _ _ (hl0 _), app_set _ _ _ (hl0 _), ws, ↓reduceIte, Nat.reduceEqDiff, Nat.reduceAdd, Nat.reduceLeDiff]
  generalize (strP s (skipSp s i)).1 = key at h ⊢
  have hsp2 := hsp.2 h2
  have hsp1 := hsp.1
  generalize (strP s (skipSp s i)).2.1 = to at h hsp2 hsp1 ⊢
  refine contF_C (key := key) (mo := σ.objs.length + 1) hnn hl (app_get1 _ _ _ (hl0 _)) ?_
  simp -implicitDefEqProofs only [ws, ↓reduceIte, Nat.reduceEqDiff, Nat.reduceAdd, Nat.reduceLeDiff]
  refine chooseK_split (fun h3 => ?_) (fun h3 => ?_) <;> simp -implicitDefEqProofs only [h3, hgp, hsl2, List.length_set, List.append_assoc, app_get _ _ (hl0 _), app_get1 _ _ _ (hl0 _), app_set1 _ _ _ _ (hl0 _), app_set _ _ _ (hl0 _), ws, ↓reduceIte, Nat.reduceEqDiff, Nat.reduceAdd, Nat.reduceLeDiff]
  · rw [if_pos h3] at h
    exact exitF hw hlt (h _ _ hsp1)
  rw [if_neg (by rw [h3]; simp)] at h
  have hle2 := skipSp_le hsp1
  have hge2 := skipSp_ge s to
  refine expect_C (c := 58) (hgp _ _) hsp1 hs ?_
  simp only [hsl2]
  by_cases h4 : byteAt s (skipSp s to) = 58
  case neg =>
    rw [if_neg h4] at h
    rw [if_neg (fun hh => h4 hh.1)]
    simp -implicitDefEqProofs only [ws, ↓reduceIte, Nat.reduceEqDiff, Nat.reduceAdd, Nat.reduceLeDiff]
    exact exitF hw hlt (wrongH h hle2)
  have h4' : skipSp s to ≠ s.length := fun hh => by rw [byteAt_end (by omega)] at h4; cases h4
  rw [if_pos h4] at h
  rw [if_pos ⟨h4, h4'⟩]
  simp -implicitDefEqProofs only [ws, ↓reduceIte, Nat.reduceEqDiff, Nat.reduceAdd, Nat.reduceLeDiff]
  refine hrec (skipSp s to + 1) _ _ (hgp _ _) (by omega) ?_
  cases hr : rec (skipSp s to + 1) with
  | error x =>
    rw [hr] at h
    intro j d' hj
    simp only [pst, hsl2]
    simp -implicitDefEqProofs only [ws, ↓reduceIte, Nat.reduceEqDiff, Nat.reduceAdd, Nat.reduceLeDiff]
    exact exitF hw hlt (h _ _ hj)
  | ok r =>
    obtain ⟨v, i1⟩ := r
    rw [hr] at h
    rw [VRes_ok]
    simp only [pst, hsl2]
    have ht8 : ∀ x : V, List.take 8 (v.cells ++ [x]) = v.cells ++ [x] := fun x => List.take_of_length_le (by simp [JV.len])
    have hd8 : ∀ x : V, (v.cells ++ [x]).length = 8 := fun x => by simp [JV.len]
    simp -implicitDefEqProofs only [hgp, hsl2, List.length_set, List.append_assoc, app_get _ _ (hl0 _), app_get1 _ _ _ (hl0 _), app_set1 _ _ _ _ (hl0 _), app_set _ _ _ (hl0 _), JV.enc, JV.len, take7, ht8, ws, ↓reduceIte, Nat.reduceEqDiff, Nat.reduceAdd, Nat.reduceLeDiff]
    have hm : Out.ret (V.agg (V.str key :: (v.cells ++ [V.int .i64 (skipSp s i : Int)]))) = .ret (JM.enc (.mk key v (skipSp s i : Nat))) := rfl
    rw [hm]
    refine exitP0 hw hlt ?_ ?_
    · simp [Out.clean, Out.fits, JM.enc, V.clean, V.fits, JM.clean, JM.fits]
    · have h : Q (.ret (JM.enc (.mk key v (skipSp s i : Nat)))) (pst σ p s i1 d) := h
      simpa [Out.clean, JM.enc, V.clean, JM.clean] using h
end Go.Proofs.YtgdcdkgmeomhpaaDoor

namespace Go.Proofs.YtgdcdkgmeomhpaaDoor
open Go Go.Vs
set_option maxRecDepth 20000
attribute [local irreducible] chooseK

def itV (T : Nat) (a : List JV) : V := if a = [] then .slc false [] .no else .slc true (encL a) (.own T)
def mtV (T : Nat) (a : List JM) : V := if a = [] then .slc false [] .no else .slc true (encMs a) (.own T)
def zero7 : List V := [.int .i64 0, .bool false, .int .i64 0, .str [], .slc false [] .no, .slc false [] .no, .int .i64 0]

/-- The stores in which an array is being parsed. -/
def arrSt (σ : St) (p : Nat) (s : List UInt8) (at0 : Nat) (Y : List TypeId) (j d : Nat) (a : List JV) : St :=
  ⟨σ.objs.set p (psr s j d) ++ [[.ref (some (p, 0))], zero7, [.int .i64 4, .bool false, .int .i64 0, .str [], itV σ.toks.length a, .slc false [] .no, .int .i64 (at0 : Int)]], σ.maps,
    σ.toks ++ (if a = [] then [] else [a.length]), σ.tys ++ Y, σ.tts ++ (if a = [] then [] else [25])⟩
def objSt (σ : St) (p : Nat) (s : List UInt8) (at0 : Nat) (Y : List TypeId) (j d : Nat) (a : List JM) : St :=
  ⟨σ.objs.set p (psr s j d) ++ [[.ref (some (p, 0))], zero7, [.int .i64 5, .bool false, .int .i64 0, .str [], .slc false [] .no, mtV σ.toks.length a, .int .i64 (at0 : Int)]], σ.maps,
    σ.toks ++ (if a = [] then [] else [a.length]), σ.tys ++ Y, σ.tts ++ (if a = [] then [] else [45])⟩

section
variable {α : Type}
theorem app_get2 {A : List α} {n : Nat} (x y z : α) (r : List α) (h : A.length = n) : (A ++ x :: y :: z :: r)[n + 2]? = some z := by subst h; simp
theorem app_set2 {A : List α} {n : Nat} (x y z w : α) (r : List α) (h : A.length = n) : (A ++ x :: y :: z :: r).set (n + 2) w = A ++ x :: y :: w :: r := by subst h; simp [List.set_append_right]
end

theorem vapp1_nil {e : TypeId} {sz : Nat} {σ : St} {y : V} {K : V → St → Prop} (hy : y.cells.length = sz) (ht : y.notTup = true) (h : K (.slc true [y] (.own σ.toks.length)) { σ with toks := σ.toks ++ [1], tts := σ.tts ++ [e] }) :
    vapp e sz σ (.slc false [] .no) [y] K := by
  refine ⟨fun z hz => ?_, by simp [big], ?_⟩
  · rw [List.mem_singleton.1 hz]; exact ⟨hy, ht⟩
  · rw [if_neg (by simp)]; exact h
theorem vapp1_own {e : TypeId} {sz : Nat} {σ : St} {xs : List V} {y : V} {i : Nat} {K : V → St → Prop} (hx : ∀ x ∈ xs, x.cells.length = sz) (hne : xs ≠ []) (hl : xs.length + 1 ≤ big) (hy : y.cells.length = sz) (ht : y.notTup = true)
    (h1 : σ.toks[i]? = some xs.length) (h2 : σ.tts[i]? = some e) (h : K (.slc true (xs ++ [y]) (.own i)) { σ with toks := σ.toks.set i (xs.length + 1) }) : vapp e sz σ (.slc true xs (.own i)) [y] K := by
  refine ⟨fun z hz => ?_, hx, hne, hl, h1, h2, h⟩
  rw [List.mem_singleton.1 hz]; exact ⟨hy, ht⟩
theorem encL_snoc (a : List JV) (v : JV) : encL (a ++ [v]) = encL a ++ [.agg v.cells] := by induction a with | nil => rfl | cons m r ih => simp [encL, ih]
theorem encMs_snoc (a : List JM) (v : JM) : encMs (a ++ [v]) = encMs a ++ [.agg v.cells] := by induction a with | nil => rfl | cons m r ih => simp [encMs, ih]

theorem value1_C {σ : St} (hw : σ.wf) {p : Nat} {s : List UInt8} {at0 : Nat} {Y : List TypeId} {d j : Nat} {a : List JV} {rec : Nat → Res JV} {Q : Out → St → Prop} (hlt : p < σ.objs.length) (hrec : ValC s p d rec) (hj : j ≤ s.length) (hs : s.length ≤ big) (ha : a.length + 1 ≤ big)
    (h : ResK Q (fun _ => V.und) (arrSt σ p s at0 Y) d s.length (arrStep rec j a)) : C Xc 39 [.ref (some (σ.objs.length + 2, 0)), .ref (some (σ.objs.length, 0))] (arrSt σ p s at0 Y j d a) Q := by
  have hsl2 : ∀ (x y : List V) (r : List (List V)), (σ.objs.set p y ++ r).set p x = σ.objs.set p x ++ r := fun x y r => by
    rw [set_low x r (by simpa using hlt), List.set_set]
  have hgp : ∀ (y : List V) (r : List (List V)), (σ.objs.set p y ++ r)[p]? = some y := fun y r => app_low r (set_get (List.getElem?_eq_getElem hlt))
  have hl0 : ∀ y : List V, (σ.objs.set p y).length = σ.objs.length := fun y => by simp
  unfold arrStep at h
  refine body cf_value1 (Eq.refl true) ?_
  by_cases hae : a = []
  · subst hae
    have e0 : arrSt σ p s at0 Y j d [] = ⟨σ.objs.set p (psr s j d) ++ [[.ref (some (p, 0))], zero7, [.int .i64 4, .bool false, .int .i64 0, .str [], .slc false [] .no, .slc false [] .no, .int .i64 (at0 : Int)]], σ.maps, σ.toks, σ.tys ++ Y, σ.tts⟩ := by
      simp [arrSt, itV]
    rw [e0]
    simp -implicitDefEqProofs only [vf_value1, hgp, app_get _ _ (hl0 _), app_get1 _ _ _ (hl0 _), app_get2 _ _ _ _ (hl0 _), ws, ↓reduceIte, Nat.reduceEqDiff, Nat.reduceAdd, Nat.reduceLeDiff]
    refine ⟨fun x hx => by rw [List.mem_singleton.1 hx]; exact ⟨rfl, rfl⟩, ?_⟩
    refine hrec j _ _ (hgp _ _) hj ?_
    cases hr : rec j with
    | error x =>
      rw [hr] at h
      intro j' d' hj'
      simp only [pst, hsl2]
      have h := h j' d' [] hj'
      simp -implicitDefEqProofs only [ws, ↓reduceIte, Nat.reduceEqDiff, Nat.reduceAdd, Nat.reduceLeDiff]
      intro fr
      refine .inl ?_
      simpa [arrSt, itV] using h
    | ok r =>
      obtain ⟨v, i1⟩ := r
      rw [hr] at h
      rw [VRes_ok]
      simp only [pst, hsl2]
      simp -implicitDefEqProofs only [Int.natCast_zero, hgp, hsl2, app_get _ _ (hl0 _), app_get1 _ _ _ (hl0 _), app_get2 _ _ _ _ (hl0 _), app_set2 _ _ _ _ _ (hl0 _), ws, ↓reduceIte, Nat.reduceEqDiff, Nat.reduceAdd, Nat.reduceLeDiff]
      refine ⟨fun x hx => by rw [List.mem_singleton.1 hx]; exact ⟨rfl, rfl⟩, vapp1_nil (JV.len v) rfl ?_⟩
      simp -implicitDefEqProofs only [hgp, hsl2, app_get _ _ (hl0 _), app_get1 _ _ _ (hl0 _), app_get2 _ _ _ _ (hl0 _), app_set2 _ _ _ _ _ (hl0 _), ws, ↓reduceIte, Nat.reduceEqDiff, Nat.reduceAdd, Nat.reduceLeDiff]
      have h : Q (.ret V.und) (arrSt σ p s at0 Y i1 d [v]) := h
      refine .inl ?_
      simpa [arrSt, itV, encL, JV.enc, V.und] using h
  · have e0 : arrSt σ p s at0 Y j d a = ⟨σ.objs.set p (psr s j d) ++ [[.ref (some (p, 0))], zero7, [.int .i64 4, .bool false, .int .i64 0, .str [], .slc true (encL a) (.own σ.toks.length), .slc false [] .no, .int .i64 (at0 : Int)]], σ.maps, σ.toks ++ [a.length], σ.tys ++ Y, σ.tts ++ [25]⟩ := by
      simp [arrSt, itV, hae]
    rw [e0]
    have hal := encL_len a
    simp -implicitDefEqProofs only [vf_value1, hgp, hsl2, app_get _ _ (hl0 _), app_get1 _ _ _ (hl0 _), app_get2 _ _ _ _ (hl0 _), app_set2 _ _ _ _ _ (hl0 _), hal, ws, ↓reduceIte, Nat.reduceEqDiff, Nat.reduceAdd, Nat.reduceLeDiff]
    refine ⟨fun x hx => by rw [List.mem_singleton.1 hx]; exact ⟨rfl, rfl⟩, ?_⟩
    refine hrec j _ _ (hgp _ _) hj ?_
    cases hr : rec j with
    | error x =>
      rw [hr] at h
      intro j' d' hj'
      simp only [pst, hsl2]
      have h := h j' d' a hj'
      simp -implicitDefEqProofs only [ws, ↓reduceIte, Nat.reduceEqDiff, Nat.reduceAdd, Nat.reduceLeDiff]
      intro fr
      refine .inl ?_
      simpa [arrSt, itV, hae] using h
    | ok r =>
      obtain ⟨v, i1⟩ := r
      rw [hr] at h
      rw [VRes_ok]
      simp only [pst, hsl2]
      simp -implicitDefEqProofs only [hgp, hsl2, app_get _ _ (hl0 _), app_get1 _ _ _ (hl0 _), app_get2 _ _ _ _ (hl0 _), app_set2 _ _ _ _ _ (hl0 _), hal, ws, ↓reduceIte, Nat.reduceEqDiff, Nat.reduceAdd, Nat.reduceLeDiff]
      refine ⟨fun x hx => by rw [List.mem_singleton.1 hx]; exact ⟨rfl, rfl⟩, vapp1_own (encL_cells a) (fun e => hae (by cases a with | nil => rfl | cons => cases e)) (by rw [hal]; exact ha) (JV.len v) rfl (by rw [hal]; exact app_get _ _ rfl) (app_get _ _ hw.2) ?_⟩
      simp -implicitDefEqProofs only [hgp, hsl2, app_get _ _ (hl0 _), app_get1 _ _ _ (hl0 _), app_get2 _ _ _ _ (hl0 _), app_set2 _ _ _ _ _ (hl0 _), hal, ws, ↓reduceIte, Nat.reduceEqDiff, Nat.reduceAdd, Nat.reduceLeDiff]
      have h : Q (.ret V.und) (arrSt σ p s at0 Y i1 d (a ++ [v])) := h
      refine .inl ?_
      simpa [arrSt, itV, encL_snoc, JV.enc, V.und, List.set_append_right] using h
theorem value2_C {σ : St} (hw : σ.wf) {p : Nat} {s : List UInt8} {at0 : Nat} {Y : List TypeId} {d j : Nat} {a : List JM} {rec : Nat → Res JV} {Q : Out → St → Prop} (hlt : p < σ.objs.length) (hrec : ValC s p d rec) (hj : j ≤ s.length) (hs : s.length ≤ big) (hprog : ∀ i v i1, i ≤ s.length → rec i = .ok (v, i1) → i ≤ i1 ∧ i1 ≤ s.length) (ha : a.length + 1 ≤ big)
    (h : ResK Q (fun _ => V.und) (objSt σ p s at0 Y) d s.length (objStep rec s j a)) : C Xc 40 [.ref (some (σ.objs.length + 2, 0)), .ref (some (σ.objs.length, 0))] (objSt σ p s at0 Y j d a) Q := by
  have hsl2 : ∀ (x y : List V) (r : List (List V)), (σ.objs.set p y ++ r).set p x = σ.objs.set p x ++ r := fun x y r => by
    rw [set_low x r (by simpa using hlt), List.set_set]
  have hgp : ∀ (y : List V) (r : List (List V)), (σ.objs.set p y ++ r)[p]? = some y := fun y r => app_low r (set_get (List.getElem?_eq_getElem hlt))
  have hl0 : ∀ y : List V, (σ.objs.set p y).length = σ.objs.length := fun y => by simp
  unfold objStep at h
  refine body cf_value2 (Eq.refl true) ?_
  by_cases hae : a = []
  · subst hae
    have e0 : objSt σ p s at0 Y j d [] = ⟨σ.objs.set p (psr s j d) ++ [[.ref (some (p, 0))], zero7, [.int .i64 5, .bool false, .int .i64 0, .str [], .slc false [] .no, .slc false [] .no, .int .i64 (at0 : Int)]], σ.maps, σ.toks, σ.tys ++ Y, σ.tts⟩ := by
      simp [objSt, mtV]
    rw [e0]
    simp -implicitDefEqProofs only [vf_value2, hgp, app_get _ _ (hl0 _), app_get1 _ _ _ (hl0 _), app_get2 _ _ _ _ (hl0 _), ws, ↓reduceIte, Nat.reduceEqDiff, Nat.reduceAdd, Nat.reduceLeDiff]
    refine ⟨fun x hx => by rw [List.mem_singleton.1 hx]; exact ⟨rfl, rfl⟩, ?_⟩
    refine pmember_C (nn := false) (ms := []) (tk := .no) hrec (hgp _ _) hj hs (fun _ => rfl) (by simp [big]) hprog ?_
    cases hr : memS rec s j [] with
    | error x =>
      rw [hr] at h
      intro j' d' hj'
      simp only [pst, hsl2]
      have h := h j' d' [] hj'
      simp -implicitDefEqProofs only [ws, ↓reduceIte, Nat.reduceEqDiff, Nat.reduceAdd, Nat.reduceLeDiff]
      intro fr
      refine .inl ?_
      simpa [objSt, mtV] using h
    | ok r =>
      obtain ⟨v, i1⟩ := r
      rw [hr] at h
      rw [VRes_ok]
      simp only [pst, hsl2]
      simp -implicitDefEqProofs only [Int.natCast_zero, hgp, hsl2, app_get _ _ (hl0 _), app_get1 _ _ _ (hl0 _), app_get2 _ _ _ _ (hl0 _), app_set2 _ _ _ _ _ (hl0 _), ws, ↓reduceIte, Nat.reduceEqDiff, Nat.reduceAdd, Nat.reduceLeDiff]
      refine ⟨fun x hx => by rw [List.mem_singleton.1 hx]; exact ⟨rfl, rfl⟩, vapp1_nil (JM.len v) rfl ?_⟩
      simp -implicitDefEqProofs only [hgp, hsl2, app_get _ _ (hl0 _), app_get1 _ _ _ (hl0 _), app_get2 _ _ _ _ (hl0 _), app_set2 _ _ _ _ _ (hl0 _), ws, ↓reduceIte, Nat.reduceEqDiff, Nat.reduceAdd, Nat.reduceLeDiff]
      have h : Q (.ret V.und) (objSt σ p s at0 Y i1 d [v]) := h
      refine .inl ?_
      simpa [objSt, mtV, encMs, JM.enc, V.und] using h
  · have e0 : objSt σ p s at0 Y j d a = ⟨σ.objs.set p (psr s j d) ++ [[.ref (some (p, 0))], zero7, [.int .i64 5, .bool false, .int .i64 0, .str [], .slc false [] .no, .slc true (encMs a) (.own σ.toks.length), .int .i64 (at0 : Int)]], σ.maps, σ.toks ++ [a.length], σ.tys ++ Y, σ.tts ++ [45]⟩ := by
      simp [objSt, mtV, hae]
    rw [e0]
    have hal := encMs_len a
    simp -implicitDefEqProofs only [vf_value2, hgp, hsl2, app_get _ _ (hl0 _), app_get1 _ _ _ (hl0 _), app_get2 _ _ _ _ (hl0 _), app_set2 _ _ _ _ _ (hl0 _), hal, ws, ↓reduceIte, Nat.reduceEqDiff, Nat.reduceAdd, Nat.reduceLeDiff]
    refine ⟨fun x hx => by rw [List.mem_singleton.1 hx]; exact ⟨rfl, rfl⟩, ?_⟩
    refine pmember_C (nn := true) (ms := a) hrec (hgp _ _) hj hs (fun e => by cases e) (by omega) hprog ?_
    cases hr : memS rec s j a with
    | error x =>
      rw [hr] at h
      intro j' d' hj'
      simp only [pst, hsl2]
      have h := h j' d' a hj'
      simp -implicitDefEqProofs only [ws, ↓reduceIte, Nat.reduceEqDiff, Nat.reduceAdd, Nat.reduceLeDiff]
      intro fr
      refine .inl ?_
      simpa [objSt, mtV, hae] using h
    | ok r =>
      obtain ⟨v, i1⟩ := r
      rw [hr] at h
      rw [VRes_ok]
      simp only [pst, hsl2]
      simp -implicitDefEqProofs only [hgp, hsl2, app_get _ _ (hl0 _), app_get1 _ _ _ (hl0 _), app_get2 _ _ _ _ (hl0 _), app_set2 _ _ _ _ _ (hl0 _), hal, ws, ↓reduceIte, Nat.reduceEqDiff, Nat.reduceAdd, Nat.reduceLeDiff]
      refine ⟨fun x hx => by rw [List.mem_singleton.1 hx]; exact ⟨rfl, rfl⟩, vapp1_own (encMs_cells a) (fun e => hae (by cases a with | nil => rfl | cons => cases e)) (by rw [hal]; exact ha) (JM.len v) rfl (by rw [hal]; exact app_get _ _ rfl) (app_get _ _ hw.2) ?_⟩
      simp -implicitDefEqProofs only [hgp, hsl2, app_get _ _ (hl0 _), app_get1 _ _ _ (hl0 _), app_get2 _ _ _ _ (hl0 _), app_set2 _ _ _ _ _ (hl0 _), hal, ws, ↓reduceIte, Nat.reduceEqDiff, Nat.reduceAdd, Nat.reduceLeDiff]
      have h : Q (.ret V.und) (objSt σ p s at0 Y i1 d (a ++ [v])) := h
      refine .inl ?_
      simpa [objSt, mtV, encMs_snoc, JM.enc, V.und, List.set_append_right] using h
end Go.Proofs.YtgdcdkgmeomhpaaDoor
