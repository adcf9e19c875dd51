/-
  NARROWER THAN 'FOR EVERY INPUT', by the rows' own cells (each row's printed sentence says how): LanesReplaces: laid · LanesDo: laid · LanesAll: laid · LanesMoves: laid · LanesStand: laid · LanesFloatsStand: laid · LanesSums: laid · LanesEnds: laid · LanesOnes: laid · LanesFloats: laid · LanesFloatOnes: laid · LanesNarrows: laid · LanesWidens: laid · LanesProducts: laid · LanesTurns: laid · LanesChooses: laid · LanesBits: laid.
  DERIVED. THE GIVEN ROWS OF THIS SEAT. 17 by the template 'for every input the law returns true; each argument reads behind the call as it read before'; 0 by the template 'total and deterministic' (their statements: YtfdggebddcoeeaaGreatDoorTotals.lean).
  GIVEN WITH THE SEED: the statements are not yours to turn. If you find one false, say at which input.
  Laid BY PROGRAM, IN A SANDBOX (cutbox-rows.mjs): the forced cells as the released guide's own fill.sh prints them over the translation f1ec46b8c3d9f965… (all of the seat's roots in one cut). By AI agents, Wed Nov 11 2026. No macro, syntax, notation, axiom, sorry.
-/
import Derived.Test.YtfdggebddcoeeaaGreatDoorChecked
import GoSem.PinnedTables
import GoSem.Claim
import GoSem.ClaimJoined
import GoSem.ClaimMapViews
import Derived.JoinedTies
import Derived.KernelRfl
namespace Go.Proofs.YtfdggebddcoeeaaGreatDoor
/- THE CELL 'sum', in the pinned program and in every row, IS THE sha256 OF THE DUMP (.gsa) THAT YtfdggebddcoeeaaGreatDoorProg.lean LOADS. Nothing in Lean hashes anything: it is a label: what it is worth is what the hold of that sum in a sandbox is worth. -/
noncomputable def Tryz.pinned : Pinned := { name := "ytfdggebddcoeeaagreatdoor", sum := "f1ec46b8c3d9f965cf2fe1ce52e7e64816df7eaffa3c127e96d61b911894f578", checked := Tryz.checked }
namespace Rows
def none {H : Type} : Left H := { results := [], args := [] }

/- WHAT THE LISTED PACKAGE-LEVEL VARIABLES READ AS WHEN THE CALL BEGINS. Each datum BY PROGRAM (the guide's laid-datum.mjs) off the statement by which the dump's own 'gosem.cut.vars' lays the variable. In a bare row this is a premise. The card (YtfdggebddcoeeaaGreatDoorCards.lean) ties it to the program's text. -/
def laid_math_bits_deBruijn64tab {H : Type} : DataW H := .agg [.lit (.int .u8 0), .lit (.int .u8 1), .lit (.int .u8 56), .lit (.int .u8 2), .lit (.int .u8 57), .lit (.int .u8 49), .lit (.int .u8 28), .lit (.int .u8 3), .lit (.int .u8 61), .lit (.int .u8 58), .lit (.int .u8 42), .lit (.int .u8 50), .lit (.int .u8 38), .lit (.int .u8 29), .lit (.int .u8 17), .lit (.int .u8 4), .lit (.int .u8 62), .lit (.int .u8 47), .lit (.int .u8 59), .lit (.int .u8 36), .lit (.int .u8 45), .lit (.int .u8 43), .lit (.int .u8 51), .lit (.int .u8 22), .lit (.int .u8 53), .lit (.int .u8 39), .lit (.int .u8 33), .lit (.int .u8 30), .lit (.int .u8 24), .lit (.int .u8 18), .lit (.int .u8 12), .lit (.int .u8 5), .lit (.int .u8 63), .lit (.int .u8 55), .lit (.int .u8 48), .lit (.int .u8 27), .lit (.int .u8 60), .lit (.int .u8 41), .lit (.int .u8 37), .lit (.int .u8 16), .lit (.int .u8 46), .lit (.int .u8 35), .lit (.int .u8 44), .lit (.int .u8 21), .lit (.int .u8 52), .lit (.int .u8 32), .lit (.int .u8 23), .lit (.int .u8 11), .lit (.int .u8 54), .lit (.int .u8 26), .lit (.int .u8 40), .lit (.int .u8 15), .lit (.int .u8 34), .lit (.int .u8 20), .lit (.int .u8 31), .lit (.int .u8 10), .lit (.int .u8 25), .lit (.int .u8 14), .lit (.int .u8 19), .lit (.int .u8 9), .lit (.int .u8 13), .lit (.int .u8 8), .lit (.int .u8 7), .lit (.int .u8 6)]
def laid_unicode_utf8_acceptRanges {H : Type} : DataW H := .agg [.agg [.lit (.int .u8 128), .lit (.int .u8 191)], .agg [.lit (.int .u8 160), .lit (.int .u8 191)], .agg [.lit (.int .u8 128), .lit (.int .u8 159)], .agg [.lit (.int .u8 144), .lit (.int .u8 191)], .agg [.lit (.int .u8 128), .lit (.int .u8 143)], .agg [.lit (.int .u8 0), .lit (.int .u8 0)], .agg [.lit (.int .u8 0), .lit (.int .u8 0)], .agg [.lit (.int .u8 0), .lit (.int .u8 0)], .agg [.lit (.int .u8 0), .lit (.int .u8 0)], .agg [.lit (.int .u8 0), .lit (.int .u8 0)], .agg [.lit (.int .u8 0), .lit (.int .u8 0)], .agg [.lit (.int .u8 0), .lit (.int .u8 0)], .agg [.lit (.int .u8 0), .lit (.int .u8 0)], .agg [.lit (.int .u8 0), .lit (.int .u8 0)], .agg [.lit (.int .u8 0), .lit (.int .u8 0)], .agg [.lit (.int .u8 0), .lit (.int .u8 0)]]
def laid_unicode_White_Space {H : Type} : DataW H := .ptr (.agg [.slice [.agg [.lit (.int .u16 9), .lit (.int .u16 13), .lit (.int .u16 1)], .agg [.lit (.int .u16 32), .lit (.int .u16 133), .lit (.int .u16 101)], .agg [.lit (.int .u16 160), .lit (.int .u16 5760), .lit (.int .u16 5600)], .agg [.lit (.int .u16 8192), .lit (.int .u16 8202), .lit (.int .u16 1)], .agg [.lit (.int .u16 8232), .lit (.int .u16 8233), .lit (.int .u16 1)], .agg [.lit (.int .u16 8239), .lit (.int .u16 8287), .lit (.int .u16 48)], .agg [.lit (.int .u16 12288), .lit (.int .u16 12288), .lit (.int .u16 1)]] [], .nil, .lit (.int .i64 2)])
def laid_strings_asciiSpace {H : Type} : DataW H := .agg [.lit (.int .u8 0), .lit (.int .u8 0), .lit (.int .u8 0), .lit (.int .u8 0), .lit (.int .u8 0), .lit (.int .u8 0), .lit (.int .u8 0), .lit (.int .u8 0), .lit (.int .u8 0), .lit (.int .u8 1), .lit (.int .u8 1), .lit (.int .u8 1), .lit (.int .u8 1), .lit (.int .u8 1), .lit (.int .u8 0), .lit (.int .u8 0), .lit (.int .u8 0), .lit (.int .u8 0), .lit (.int .u8 0), .lit (.int .u8 0), .lit (.int .u8 0), .lit (.int .u8 0), .lit (.int .u8 0), .lit (.int .u8 0), .lit (.int .u8 0), .lit (.int .u8 0), .lit (.int .u8 0), .lit (.int .u8 0), .lit (.int .u8 0), .lit (.int .u8 0), .lit (.int .u8 0), .lit (.int .u8 0), .lit (.int .u8 1), .lit (.int .u8 0), .lit (.int .u8 0), .lit (.int .u8 0), .lit (.int .u8 0), .lit (.int .u8 0), .lit (.int .u8 0), .lit (.int .u8 0), .lit (.int .u8 0), .lit (.int .u8 0), .lit (.int .u8 0), .lit (.int .u8 0), .lit (.int .u8 0), .lit (.int .u8 0), .lit (.int .u8 0), .lit (.int .u8 0), .lit (.int .u8 0), .lit (.int .u8 0), .lit (.int .u8 0), .lit (.int .u8 0), .lit (.int .u8 0), .lit (.int .u8 0), .lit (.int .u8 0), .lit (.int .u8 0), .lit (.int .u8 0), .lit (.int .u8 0), .lit (.int .u8 0), .lit (.int .u8 0), .lit (.int .u8 0), .lit (.int .u8 0), .lit (.int .u8 0), .lit (.int .u8 0), .lit (.int .u8 0), .lit (.int .u8 0), .lit (.int .u8 0), .lit (.int .u8 0), .lit (.int .u8 0), .lit (.int .u8 0), .lit (.int .u8 0), .lit (.int .u8 0), .lit (.int .u8 0), .lit (.int .u8 0), .lit (.int .u8 0), .lit (.int .u8 0), .lit (.int .u8 0), .lit (.int .u8 0), .lit (.int .u8 0), .lit (.int .u8 0), .lit (.int .u8 0), .lit (.int .u8 0), .lit (.int .u8 0), .lit (.int .u8 0), .lit (.int .u8 0), .lit (.int .u8 0), .lit (.int .u8 0), .lit (.int .u8 0), .lit (.int .u8 0), .lit (.int .u8 0), .lit (.int .u8 0), .lit (.int .u8 0), .lit (.int .u8 0), .lit (.int .u8 0), .lit (.int .u8 0), .lit (.int .u8 0), .lit (.int .u8 0), .lit (.int .u8 0), .lit (.int .u8 0), .lit (.int .u8 0), .lit (.int .u8 0), .lit (.int .u8 0), .lit (.int .u8 0), .lit (.int .u8 0), .lit (.int .u8 0), .lit (.int .u8 0), .lit (.int .u8 0), .lit (.int .u8 0), .lit (.int .u8 0), .lit (.int .u8 0), .lit (.int .u8 0), .lit (.int .u8 0), .lit (.int .u8 0), .lit (.int .u8 0), .lit (.int .u8 0), .lit (.int .u8 0), .lit (.int .u8 0), .lit (.int .u8 0), .lit (.int .u8 0), .lit (.int .u8 0), .lit (.int .u8 0), .lit (.int .u8 0), .lit (.int .u8 0), .lit (.int .u8 0), .lit (.int .u8 0), .lit (.int .u8 0), .lit (.int .u8 0), .lit (.int .u8 0), .lit (.int .u8 0), .lit (.int .u8 0), .lit (.int .u8 0), .lit (.int .u8 0), .lit (.int .u8 0), .lit (.int .u8 0), .lit (.int .u8 0), .lit (.int .u8 0), .lit (.int .u8 0), .lit (.int .u8 0), .lit (.int .u8 0), .lit (.int .u8 0), .lit (.int .u8 0), .lit (.int .u8 0), .lit (.int .u8 0), .lit (.int .u8 0), .lit (.int .u8 0), .lit (.int .u8 0), .lit (.int .u8 0), .lit (.int .u8 0), .lit (.int .u8 0), .lit (.int .u8 0), .lit (.int .u8 0), .lit (.int .u8 0), .lit (.int .u8 0), .lit (.int .u8 0), .lit (.int .u8 0), .lit (.int .u8 0), .lit (.int .u8 0), .lit (.int .u8 0), .lit (.int .u8 0), .lit (.int .u8 0), .lit (.int .u8 0), .lit (.int .u8 0), .lit (.int .u8 0), .lit (.int .u8 0), .lit (.int .u8 0), .lit (.int .u8 0), .lit (.int .u8 0), .lit (.int .u8 0), .lit (.int .u8 0), .lit (.int .u8 0), .lit (.int .u8 0), .lit (.int .u8 0), .lit (.int .u8 0), .lit (.int .u8 0), .lit (.int .u8 0), .lit (.int .u8 0), .lit (.int .u8 0), .lit (.int .u8 0), .lit (.int .u8 0), .lit (.int .u8 0), .lit (.int .u8 0), .lit (.int .u8 0), .lit (.int .u8 0), .lit (.int .u8 0), .lit (.int .u8 0), .lit (.int .u8 0), .lit (.int .u8 0), .lit (.int .u8 0), .lit (.int .u8 0), .lit (.int .u8 0), .lit (.int .u8 0), .lit (.int .u8 0), .lit (.int .u8 0), .lit (.int .u8 0), .lit (.int .u8 0), .lit (.int .u8 0), .lit (.int .u8 0), .lit (.int .u8 0), .lit (.int .u8 0), .lit (.int .u8 0), .lit (.int .u8 0), .lit (.int .u8 0), .lit (.int .u8 0), .lit (.int .u8 0), .lit (.int .u8 0), .lit (.int .u8 0), .lit (.int .u8 0), .lit (.int .u8 0), .lit (.int .u8 0), .lit (.int .u8 0), .lit (.int .u8 0), .lit (.int .u8 0), .lit (.int .u8 0), .lit (.int .u8 0), .lit (.int .u8 0), .lit (.int .u8 0), .lit (.int .u8 0), .lit (.int .u8 0), .lit (.int .u8 0), .lit (.int .u8 0), .lit (.int .u8 0), .lit (.int .u8 0), .lit (.int .u8 0), .lit (.int .u8 0), .lit (.int .u8 0), .lit (.int .u8 0), .lit (.int .u8 0), .lit (.int .u8 0), .lit (.int .u8 0), .lit (.int .u8 0), .lit (.int .u8 0), .lit (.int .u8 0), .lit (.int .u8 0), .lit (.int .u8 0), .lit (.int .u8 0), .lit (.int .u8 0), .lit (.int .u8 0), .lit (.int .u8 0), .lit (.int .u8 0), .lit (.int .u8 0), .lit (.int .u8 0), .lit (.int .u8 0), .lit (.int .u8 0), .lit (.int .u8 0), .lit (.int .u8 0), .lit (.int .u8 0), .lit (.int .u8 0), .lit (.int .u8 0), .lit (.int .u8 0), .lit (.int .u8 0), .lit (.int .u8 0), .lit (.int .u8 0), .lit (.int .u8 0), .lit (.int .u8 0), .lit (.int .u8 0), .lit (.int .u8 0)]
def laid_bodkin_ops_more {H : Type} : DataW H := .agg [.lit (.string [105, 51, 50, 46, 116, 114, 117, 110, 99, 95, 115, 97, 116, 95, 102, 51, 50, 95, 115, 32, 48, 32, 102, 62, 105]), .lit (.string [105, 51, 50, 46, 116, 114, 117, 110, 99, 95, 115, 97, 116, 95, 102, 51, 50, 95, 117, 32, 48, 32, 102, 62, 105]), .lit (.string [105, 51, 50, 46, 116, 114, 117, 110, 99, 95, 115, 97, 116, 95, 102, 54, 52, 95, 115, 32, 48, 32, 100, 62, 105]), .lit (.string [105, 51, 50, 46, 116, 114, 117, 110, 99, 95, 115, 97, 116, 95, 102, 54, 52, 95, 117, 32, 48, 32, 100, 62, 105]), .lit (.string [105, 54, 52, 46, 116, 114, 117, 110, 99, 95, 115, 97, 116, 95, 102, 51, 50, 95, 115, 32, 48, 32, 102, 62, 108]), .lit (.string [105, 54, 52, 46, 116, 114, 117, 110, 99, 95, 115, 97, 116, 95, 102, 51, 50, 95, 117, 32, 48, 32, 102, 62, 108]), .lit (.string [105, 54, 52, 46, 116, 114, 117, 110, 99, 95, 115, 97, 116, 95, 102, 54, 52, 95, 115, 32, 48, 32, 100, 62, 108]), .lit (.string [105, 54, 52, 46, 116, 114, 117, 110, 99, 95, 115, 97, 116, 95, 102, 54, 52, 95, 117, 32, 48, 32, 100, 62, 108]), .lit (.string [109, 101, 109, 111, 114, 121, 46, 105, 110, 105, 116, 32, 49, 55, 32, 105, 105, 105, 62]), .lit (.string [100, 97, 116, 97, 46, 100, 114, 111, 112, 32, 49, 56, 32, 62]), .lit (.string [109, 101, 109, 111, 114, 121, 46, 99, 111, 112, 121, 32, 49, 57, 32, 105, 105, 105, 62]), .lit (.string [109, 101, 109, 111, 114, 121, 46, 102, 105, 108, 108, 32, 49, 49, 32, 105, 105, 105, 62]), .lit (.string [116, 97, 98, 108, 101, 46, 105, 110, 105, 116, 32, 50, 48, 32, 105, 105, 105, 62]), .lit (.string [101, 108, 101, 109, 46, 100, 114, 111, 112, 32, 50, 49, 32, 62]), .lit (.string [116, 97, 98, 108, 101, 46, 99, 111, 112, 121, 32, 50, 50, 32, 105, 105, 105, 62]), .lit (.string [116, 97, 98, 108, 101, 46, 103, 114, 111, 119, 32, 57, 32, 63]), .lit (.string [116, 97, 98, 108, 101, 46, 115, 105, 122, 101, 32, 57, 32, 62, 105]), .lit (.string [116, 97, 98, 108, 101, 46, 102, 105, 108, 108, 32, 57, 32, 63])]
/-- One of Go's own tables, pinned by name: the form's constant. -/
def laid_unicode_utf8_first : DataW Unit := Go.Pinned.utf8First

/-- 'bodkinlaw06.LanesReplaces': WHATEVER THE INPUT: true; the input reads as it did. -/
def lanesReplacesSpec : ChangeSpec := { name := "lanesReplaces", fn := fun _ => fun
  | [d1, d2, d3, d4] => { results := [.lit (.bool true)], args := [d1, d2, d3, d4] }
  | _ => none }
def lanesReplacesRow : OpenClaim := { program := "ytfdggebddcoeeaagreatdoor", sum := "f1ec46b8c3d9f965cf2fe1ce52e7e64816df7eaffa3c127e96d61b911894f578", func := "bodkin/bodkinlaw06.LanesReplaces", spec := "lanesReplaces", inPlace := ["internal/bytealg.IndexByteString", "internal/bytealg.IndexString", "internal/bytealg.CountString"], unfollowed := true, recurses := true, named := ["bodkin/ops.more", "strings.asciiSpace", "unicode.White_Space", "internal/bytealg.MaxLen", "unicode/utf8.first", "unicode/utf8.acceptRanges", "math/bits.deBruijn64tab", "math/bits.divideError", "math/bits.overflowError"], apart := false, laid := [("math/bits.deBruijn64tab", laid_math_bits_deBruijn64tab), ("unicode/utf8.acceptRanges", laid_unicode_utf8_acceptRanges), ("unicode.White_Space", laid_unicode_White_Space), ("strings.asciiSpace", laid_strings_asciiSpace), ("bodkin/ops.more", laid_bodkin_ops_more), ("unicode/utf8.first", laid_unicode_utf8_first)] }
def LanesReplacesSaid : Prop := lanesReplacesRow.holds Tryz.pinned (OpenSpec.ofChange lanesReplacesSpec)

/-- ITS FALSE NEIGHBOUR: 'it returns false'. Refute it at one input. -/
def lanesReplacesWrong : ChangeSpec := { name := "lanesReplaces", fn := fun _ => fun
  | [d1, d2, d3, d4] => { results := [.lit (.bool false)], args := [d1, d2, d3, d4] }
  | _ => none }
def LanesReplacesWrongFalsely : Prop := lanesReplacesRow.holds Tryz.pinned (OpenSpec.ofChange lanesReplacesWrong)

/-- 'bodkinlaw06.LanesDo': WHATEVER THE INPUT: true; the input reads as it did. -/
def lanesDoSpec : ChangeSpec := { name := "lanesDo", fn := fun _ => fun
  | [d1, d2, d3] => { results := [.lit (.bool true)], args := [d1, d2, d3] }
  | _ => none }
def lanesDoRow : OpenClaim := { program := "ytfdggebddcoeeaagreatdoor", sum := "f1ec46b8c3d9f965cf2fe1ce52e7e64816df7eaffa3c127e96d61b911894f578", func := "bodkin/bodkinlaw06.LanesDo", spec := "lanesDo", inPlace := ["internal/bytealg.IndexByteString", "internal/bytealg.IndexString", "internal/bytealg.CountString", "math.Float32frombits", "math.Float64frombits", "math.archTrunc", "math.Float64bits", "math.Float32bits", "math.sqrt", "math.archCeil", "math.archFloor", "math.RoundToEven"], unfollowed := true, recurses := true, named := ["bodkin/ops.more", "strings.asciiSpace", "unicode.White_Space", "internal/bytealg.MaxLen", "unicode/utf8.first", "unicode/utf8.acceptRanges", "math/bits.deBruijn64tab", "math/bits.divideError", "math/bits.overflowError"], apart := false, laid := [("math/bits.deBruijn64tab", laid_math_bits_deBruijn64tab), ("unicode/utf8.acceptRanges", laid_unicode_utf8_acceptRanges), ("unicode.White_Space", laid_unicode_White_Space), ("strings.asciiSpace", laid_strings_asciiSpace), ("bodkin/ops.more", laid_bodkin_ops_more), ("unicode/utf8.first", laid_unicode_utf8_first)] }
def LanesDoSaid : Prop := lanesDoRow.holds Tryz.pinned (OpenSpec.ofChange lanesDoSpec)

/-- ITS FALSE NEIGHBOUR: 'it returns false'. Refute it at one input. -/
def lanesDoWrong : ChangeSpec := { name := "lanesDo", fn := fun _ => fun
  | [d1, d2, d3] => { results := [.lit (.bool false)], args := [d1, d2, d3] }
  | _ => none }
def LanesDoWrongFalsely : Prop := lanesDoRow.holds Tryz.pinned (OpenSpec.ofChange lanesDoWrong)

/-- 'bodkinlaw06.LanesAll': WHATEVER THE INPUT: true; the input reads as it did. -/
def lanesAllSpec : ChangeSpec := { name := "lanesAll", fn := fun _ => fun
  | [d1, d2, d3, d4, d5] => { results := [.lit (.bool true)], args := [d1, d2, d3, d4, d5] }
  | _ => none }
def lanesAllRow : OpenClaim := { program := "ytfdggebddcoeeaagreatdoor", sum := "f1ec46b8c3d9f965cf2fe1ce52e7e64816df7eaffa3c127e96d61b911894f578", func := "bodkin/bodkinlaw06.LanesAll", spec := "lanesAll", inPlace := ["internal/bytealg.IndexByteString", "internal/bytealg.IndexString", "internal/bytealg.CountString", "math.Float32frombits", "math.Float64frombits", "math.archTrunc", "math.Float64bits", "math.Float32bits", "math.sqrt", "math.archCeil", "math.archFloor", "math.RoundToEven"], unfollowed := true, recurses := true, named := ["bodkin/ops.more", "strings.asciiSpace", "unicode.White_Space", "internal/bytealg.MaxLen", "unicode/utf8.first", "unicode/utf8.acceptRanges", "math/bits.deBruijn64tab", "math/bits.divideError", "math/bits.overflowError"], apart := false, laid := [("math/bits.deBruijn64tab", laid_math_bits_deBruijn64tab), ("unicode/utf8.acceptRanges", laid_unicode_utf8_acceptRanges), ("unicode.White_Space", laid_unicode_White_Space), ("strings.asciiSpace", laid_strings_asciiSpace), ("bodkin/ops.more", laid_bodkin_ops_more), ("unicode/utf8.first", laid_unicode_utf8_first)] }
def LanesAllSaid : Prop := lanesAllRow.holds Tryz.pinned (OpenSpec.ofChange lanesAllSpec)

/-- ITS FALSE NEIGHBOUR: 'it returns false'. Refute it at one input. -/
def lanesAllWrong : ChangeSpec := { name := "lanesAll", fn := fun _ => fun
  | [d1, d2, d3, d4, d5] => { results := [.lit (.bool false)], args := [d1, d2, d3, d4, d5] }
  | _ => none }
def LanesAllWrongFalsely : Prop := lanesAllRow.holds Tryz.pinned (OpenSpec.ofChange lanesAllWrong)

/-- 'bodkinlaw06.LanesMoves': WHATEVER THE INPUT: true; the input reads as it did. -/
def lanesMovesSpec : ChangeSpec := { name := "lanesMoves", fn := fun _ => fun
  | [d1, d2, d3, d4, d5] => { results := [.lit (.bool true)], args := [d1, d2, d3, d4, d5] }
  | _ => none }
def lanesMovesRow : OpenClaim := { program := "ytfdggebddcoeeaagreatdoor", sum := "f1ec46b8c3d9f965cf2fe1ce52e7e64816df7eaffa3c127e96d61b911894f578", func := "bodkin/bodkinlaw06.LanesMoves", spec := "lanesMoves", inPlace := ["internal/bytealg.IndexByteString", "internal/bytealg.IndexString", "internal/bytealg.CountString", "math.Float32frombits", "math.Float64frombits", "math.archTrunc", "math.Float64bits", "math.Float32bits", "math.sqrt", "math.archCeil", "math.archFloor", "math.RoundToEven"], unfollowed := true, recurses := true, named := ["bodkin/ops.more", "strings.asciiSpace", "unicode.White_Space", "internal/bytealg.MaxLen", "unicode/utf8.first", "unicode/utf8.acceptRanges", "math/bits.deBruijn64tab", "math/bits.divideError", "math/bits.overflowError"], apart := false, laid := [("math/bits.deBruijn64tab", laid_math_bits_deBruijn64tab), ("unicode/utf8.acceptRanges", laid_unicode_utf8_acceptRanges), ("unicode.White_Space", laid_unicode_White_Space), ("strings.asciiSpace", laid_strings_asciiSpace), ("bodkin/ops.more", laid_bodkin_ops_more), ("unicode/utf8.first", laid_unicode_utf8_first)] }
def LanesMovesSaid : Prop := lanesMovesRow.holds Tryz.pinned (OpenSpec.ofChange lanesMovesSpec)

/-- ITS FALSE NEIGHBOUR: 'it returns false'. Refute it at one input. -/
def lanesMovesWrong : ChangeSpec := { name := "lanesMoves", fn := fun _ => fun
  | [d1, d2, d3, d4, d5] => { results := [.lit (.bool false)], args := [d1, d2, d3, d4, d5] }
  | _ => none }
def LanesMovesWrongFalsely : Prop := lanesMovesRow.holds Tryz.pinned (OpenSpec.ofChange lanesMovesWrong)

/-- 'bodkinlaw06.LanesStand': WHATEVER THE INPUT: true; the input reads as it did. -/
def lanesStandSpec : ChangeSpec := { name := "lanesStand", fn := fun _ => fun
  | [d1, d2, d3, d4, d5] => { results := [.lit (.bool true)], args := [d1, d2, d3, d4, d5] }
  | _ => none }
def lanesStandRow : OpenClaim := { program := "ytfdggebddcoeeaagreatdoor", sum := "f1ec46b8c3d9f965cf2fe1ce52e7e64816df7eaffa3c127e96d61b911894f578", func := "bodkin/bodkinlaw06.LanesStand", spec := "lanesStand", inPlace := ["internal/bytealg.IndexByteString", "internal/bytealg.IndexString", "internal/bytealg.CountString", "math.Float32frombits", "math.Float64frombits", "math.archTrunc", "math.Float64bits", "math.Float32bits", "math.sqrt", "math.archCeil", "math.archFloor", "math.RoundToEven"], unfollowed := true, recurses := true, named := ["bodkin/ops.more", "strings.asciiSpace", "unicode.White_Space", "internal/bytealg.MaxLen", "unicode/utf8.first", "unicode/utf8.acceptRanges", "math/bits.deBruijn64tab", "math/bits.divideError", "math/bits.overflowError"], apart := false, laid := [("math/bits.deBruijn64tab", laid_math_bits_deBruijn64tab), ("unicode/utf8.acceptRanges", laid_unicode_utf8_acceptRanges), ("unicode.White_Space", laid_unicode_White_Space), ("strings.asciiSpace", laid_strings_asciiSpace), ("bodkin/ops.more", laid_bodkin_ops_more), ("unicode/utf8.first", laid_unicode_utf8_first)] }
def LanesStandSaid : Prop := lanesStandRow.holds Tryz.pinned (OpenSpec.ofChange lanesStandSpec)

/-- ITS FALSE NEIGHBOUR: 'it returns false'. Refute it at one input. -/
def lanesStandWrong : ChangeSpec := { name := "lanesStand", fn := fun _ => fun
  | [d1, d2, d3, d4, d5] => { results := [.lit (.bool false)], args := [d1, d2, d3, d4, d5] }
  | _ => none }
def LanesStandWrongFalsely : Prop := lanesStandRow.holds Tryz.pinned (OpenSpec.ofChange lanesStandWrong)

/-- 'bodkinlaw06.LanesFloatsStand': WHATEVER THE INPUT: true; the input reads as it did. -/
def lanesFloatsStandSpec : ChangeSpec := { name := "lanesFloatsStand", fn := fun _ => fun
  | [d1, d2, d3, d4, d5] => { results := [.lit (.bool true)], args := [d1, d2, d3, d4, d5] }
  | _ => none }
def lanesFloatsStandRow : OpenClaim := { program := "ytfdggebddcoeeaagreatdoor", sum := "f1ec46b8c3d9f965cf2fe1ce52e7e64816df7eaffa3c127e96d61b911894f578", func := "bodkin/bodkinlaw06.LanesFloatsStand", spec := "lanesFloatsStand", inPlace := ["internal/bytealg.IndexByteString", "internal/bytealg.IndexString", "internal/bytealg.CountString", "math.Float32frombits", "math.Float64frombits", "math.archTrunc", "math.Float64bits", "math.Float32bits", "math.sqrt", "math.archCeil", "math.archFloor", "math.RoundToEven"], unfollowed := true, recurses := true, named := ["bodkin/ops.more", "strings.asciiSpace", "unicode.White_Space", "internal/bytealg.MaxLen", "unicode/utf8.first", "unicode/utf8.acceptRanges", "math/bits.deBruijn64tab", "math/bits.divideError", "math/bits.overflowError"], apart := false, laid := [("math/bits.deBruijn64tab", laid_math_bits_deBruijn64tab), ("unicode/utf8.acceptRanges", laid_unicode_utf8_acceptRanges), ("unicode.White_Space", laid_unicode_White_Space), ("strings.asciiSpace", laid_strings_asciiSpace), ("bodkin/ops.more", laid_bodkin_ops_more), ("unicode/utf8.first", laid_unicode_utf8_first)] }
def LanesFloatsStandSaid : Prop := lanesFloatsStandRow.holds Tryz.pinned (OpenSpec.ofChange lanesFloatsStandSpec)

/-- ITS FALSE NEIGHBOUR: 'it returns false'. Refute it at one input. -/
def lanesFloatsStandWrong : ChangeSpec := { name := "lanesFloatsStand", fn := fun _ => fun
  | [d1, d2, d3, d4, d5] => { results := [.lit (.bool false)], args := [d1, d2, d3, d4, d5] }
  | _ => none }
def LanesFloatsStandWrongFalsely : Prop := lanesFloatsStandRow.holds Tryz.pinned (OpenSpec.ofChange lanesFloatsStandWrong)

/-- 'bodkinlaw06.LanesSums': WHATEVER THE INPUT: true; the input reads as it did. -/
def lanesSumsSpec : ChangeSpec := { name := "lanesSums", fn := fun _ => fun
  | [d1, d2, d3, d4, d5] => { results := [.lit (.bool true)], args := [d1, d2, d3, d4, d5] }
  | _ => none }
def lanesSumsRow : OpenClaim := { program := "ytfdggebddcoeeaagreatdoor", sum := "f1ec46b8c3d9f965cf2fe1ce52e7e64816df7eaffa3c127e96d61b911894f578", func := "bodkin/bodkinlaw06.LanesSums", spec := "lanesSums", inPlace := ["internal/bytealg.IndexByteString", "internal/bytealg.IndexString", "internal/bytealg.CountString", "math.Float32frombits", "math.Float64frombits", "math.archTrunc", "math.Float64bits", "math.Float32bits", "math.sqrt", "math.archCeil", "math.archFloor", "math.RoundToEven"], unfollowed := true, recurses := true, named := ["bodkin/ops.more", "strings.asciiSpace", "unicode.White_Space", "internal/bytealg.MaxLen", "unicode/utf8.first", "unicode/utf8.acceptRanges", "math/bits.deBruijn64tab", "math/bits.divideError", "math/bits.overflowError"], apart := false, laid := [("math/bits.deBruijn64tab", laid_math_bits_deBruijn64tab), ("unicode/utf8.acceptRanges", laid_unicode_utf8_acceptRanges), ("unicode.White_Space", laid_unicode_White_Space), ("strings.asciiSpace", laid_strings_asciiSpace), ("bodkin/ops.more", laid_bodkin_ops_more), ("unicode/utf8.first", laid_unicode_utf8_first)] }
def LanesSumsSaid : Prop := lanesSumsRow.holds Tryz.pinned (OpenSpec.ofChange lanesSumsSpec)

/-- ITS FALSE NEIGHBOUR: 'it returns false'. Refute it at one input. -/
def lanesSumsWrong : ChangeSpec := { name := "lanesSums", fn := fun _ => fun
  | [d1, d2, d3, d4, d5] => { results := [.lit (.bool false)], args := [d1, d2, d3, d4, d5] }
  | _ => none }
def LanesSumsWrongFalsely : Prop := lanesSumsRow.holds Tryz.pinned (OpenSpec.ofChange lanesSumsWrong)

/-- 'bodkinlaw06.LanesEnds': WHATEVER THE INPUT: true; the input reads as it did. -/
def lanesEndsSpec : ChangeSpec := { name := "lanesEnds", fn := fun _ => fun
  | [d1, d2, d3, d4, d5] => { results := [.lit (.bool true)], args := [d1, d2, d3, d4, d5] }
  | _ => none }
def lanesEndsRow : OpenClaim := { program := "ytfdggebddcoeeaagreatdoor", sum := "f1ec46b8c3d9f965cf2fe1ce52e7e64816df7eaffa3c127e96d61b911894f578", func := "bodkin/bodkinlaw06.LanesEnds", spec := "lanesEnds", inPlace := ["internal/bytealg.IndexByteString", "internal/bytealg.IndexString", "internal/bytealg.CountString", "math.Float32frombits", "math.Float64frombits", "math.archTrunc", "math.Float64bits", "math.Float32bits", "math.sqrt", "math.archCeil", "math.archFloor", "math.RoundToEven"], unfollowed := true, recurses := true, named := ["bodkin/ops.more", "strings.asciiSpace", "unicode.White_Space", "internal/bytealg.MaxLen", "unicode/utf8.first", "unicode/utf8.acceptRanges", "math/bits.deBruijn64tab", "math/bits.divideError", "math/bits.overflowError"], apart := false, laid := [("math/bits.deBruijn64tab", laid_math_bits_deBruijn64tab), ("unicode/utf8.acceptRanges", laid_unicode_utf8_acceptRanges), ("unicode.White_Space", laid_unicode_White_Space), ("strings.asciiSpace", laid_strings_asciiSpace), ("bodkin/ops.more", laid_bodkin_ops_more), ("unicode/utf8.first", laid_unicode_utf8_first)] }
def LanesEndsSaid : Prop := lanesEndsRow.holds Tryz.pinned (OpenSpec.ofChange lanesEndsSpec)

/-- ITS FALSE NEIGHBOUR: 'it returns false'. Refute it at one input. -/
def lanesEndsWrong : ChangeSpec := { name := "lanesEnds", fn := fun _ => fun
  | [d1, d2, d3, d4, d5] => { results := [.lit (.bool false)], args := [d1, d2, d3, d4, d5] }
  | _ => none }
def LanesEndsWrongFalsely : Prop := lanesEndsRow.holds Tryz.pinned (OpenSpec.ofChange lanesEndsWrong)

/-- 'bodkinlaw06.LanesOnes': WHATEVER THE INPUT: true; the input reads as it did. -/
def lanesOnesSpec : ChangeSpec := { name := "lanesOnes", fn := fun _ => fun
  | [d1, d2, d3, d4, d5] => { results := [.lit (.bool true)], args := [d1, d2, d3, d4, d5] }
  | _ => none }
def lanesOnesRow : OpenClaim := { program := "ytfdggebddcoeeaagreatdoor", sum := "f1ec46b8c3d9f965cf2fe1ce52e7e64816df7eaffa3c127e96d61b911894f578", func := "bodkin/bodkinlaw06.LanesOnes", spec := "lanesOnes", inPlace := ["internal/bytealg.IndexByteString", "internal/bytealg.IndexString", "internal/bytealg.CountString", "math.Float32frombits", "math.Float64frombits", "math.archTrunc", "math.Float64bits", "math.Float32bits", "math.sqrt", "math.archCeil", "math.archFloor", "math.RoundToEven"], unfollowed := true, recurses := true, named := ["bodkin/ops.more", "strings.asciiSpace", "unicode.White_Space", "internal/bytealg.MaxLen", "unicode/utf8.first", "unicode/utf8.acceptRanges", "math/bits.deBruijn64tab", "math/bits.divideError", "math/bits.overflowError"], apart := false, laid := [("math/bits.deBruijn64tab", laid_math_bits_deBruijn64tab), ("unicode/utf8.acceptRanges", laid_unicode_utf8_acceptRanges), ("unicode.White_Space", laid_unicode_White_Space), ("strings.asciiSpace", laid_strings_asciiSpace), ("bodkin/ops.more", laid_bodkin_ops_more), ("unicode/utf8.first", laid_unicode_utf8_first)] }
def LanesOnesSaid : Prop := lanesOnesRow.holds Tryz.pinned (OpenSpec.ofChange lanesOnesSpec)

/-- ITS FALSE NEIGHBOUR: 'it returns false'. Refute it at one input. -/
def lanesOnesWrong : ChangeSpec := { name := "lanesOnes", fn := fun _ => fun
  | [d1, d2, d3, d4, d5] => { results := [.lit (.bool false)], args := [d1, d2, d3, d4, d5] }
  | _ => none }
def LanesOnesWrongFalsely : Prop := lanesOnesRow.holds Tryz.pinned (OpenSpec.ofChange lanesOnesWrong)

/-- 'bodkinlaw06.LanesFloats': WHATEVER THE INPUT: true; the input reads as it did. -/
def lanesFloatsSpec : ChangeSpec := { name := "lanesFloats", fn := fun _ => fun
  | [d1, d2, d3, d4, d5] => { results := [.lit (.bool true)], args := [d1, d2, d3, d4, d5] }
  | _ => none }
def lanesFloatsRow : OpenClaim := { program := "ytfdggebddcoeeaagreatdoor", sum := "f1ec46b8c3d9f965cf2fe1ce52e7e64816df7eaffa3c127e96d61b911894f578", func := "bodkin/bodkinlaw06.LanesFloats", spec := "lanesFloats", inPlace := ["internal/bytealg.IndexByteString", "internal/bytealg.IndexString", "internal/bytealg.CountString", "math.Float32frombits", "math.Float64frombits", "math.archTrunc", "math.Float64bits", "math.Float32bits", "math.sqrt", "math.archCeil", "math.archFloor", "math.RoundToEven"], unfollowed := true, recurses := true, named := ["bodkin/ops.more", "strings.asciiSpace", "unicode.White_Space", "internal/bytealg.MaxLen", "unicode/utf8.first", "unicode/utf8.acceptRanges", "math/bits.deBruijn64tab", "math/bits.divideError", "math/bits.overflowError"], apart := false, laid := [("math/bits.deBruijn64tab", laid_math_bits_deBruijn64tab), ("unicode/utf8.acceptRanges", laid_unicode_utf8_acceptRanges), ("unicode.White_Space", laid_unicode_White_Space), ("strings.asciiSpace", laid_strings_asciiSpace), ("bodkin/ops.more", laid_bodkin_ops_more), ("unicode/utf8.first", laid_unicode_utf8_first)] }
def LanesFloatsSaid : Prop := lanesFloatsRow.holds Tryz.pinned (OpenSpec.ofChange lanesFloatsSpec)

/-- ITS FALSE NEIGHBOUR: 'it returns false'. Refute it at one input. -/
def lanesFloatsWrong : ChangeSpec := { name := "lanesFloats", fn := fun _ => fun
  | [d1, d2, d3, d4, d5] => { results := [.lit (.bool false)], args := [d1, d2, d3, d4, d5] }
  | _ => none }
def LanesFloatsWrongFalsely : Prop := lanesFloatsRow.holds Tryz.pinned (OpenSpec.ofChange lanesFloatsWrong)

/-- 'bodkinlaw06.LanesFloatOnes': WHATEVER THE INPUT: true; the input reads as it did. -/
def lanesFloatOnesSpec : ChangeSpec := { name := "lanesFloatOnes", fn := fun _ => fun
  | [d1, d2, d3, d4, d5] => { results := [.lit (.bool true)], args := [d1, d2, d3, d4, d5] }
  | _ => none }
def lanesFloatOnesRow : OpenClaim := { program := "ytfdggebddcoeeaagreatdoor", sum := "f1ec46b8c3d9f965cf2fe1ce52e7e64816df7eaffa3c127e96d61b911894f578", func := "bodkin/bodkinlaw06.LanesFloatOnes", spec := "lanesFloatOnes", inPlace := ["internal/bytealg.IndexByteString", "internal/bytealg.IndexString", "internal/bytealg.CountString", "math.Float32frombits", "math.Float64frombits", "math.archTrunc", "math.Float64bits", "math.Float32bits", "math.sqrt", "math.archCeil", "math.archFloor", "math.RoundToEven"], unfollowed := true, recurses := true, named := ["bodkin/ops.more", "strings.asciiSpace", "unicode.White_Space", "internal/bytealg.MaxLen", "unicode/utf8.first", "unicode/utf8.acceptRanges", "math/bits.deBruijn64tab", "math/bits.divideError", "math/bits.overflowError"], apart := false, laid := [("math/bits.deBruijn64tab", laid_math_bits_deBruijn64tab), ("unicode/utf8.acceptRanges", laid_unicode_utf8_acceptRanges), ("unicode.White_Space", laid_unicode_White_Space), ("strings.asciiSpace", laid_strings_asciiSpace), ("bodkin/ops.more", laid_bodkin_ops_more), ("unicode/utf8.first", laid_unicode_utf8_first)] }
def LanesFloatOnesSaid : Prop := lanesFloatOnesRow.holds Tryz.pinned (OpenSpec.ofChange lanesFloatOnesSpec)

/-- ITS FALSE NEIGHBOUR: 'it returns false'. Refute it at one input. -/
def lanesFloatOnesWrong : ChangeSpec := { name := "lanesFloatOnes", fn := fun _ => fun
  | [d1, d2, d3, d4, d5] => { results := [.lit (.bool false)], args := [d1, d2, d3, d4, d5] }
  | _ => none }
def LanesFloatOnesWrongFalsely : Prop := lanesFloatOnesRow.holds Tryz.pinned (OpenSpec.ofChange lanesFloatOnesWrong)

/-- 'bodkinlaw06.LanesNarrows': WHATEVER THE INPUT: true; the input reads as it did. -/
def lanesNarrowsSpec : ChangeSpec := { name := "lanesNarrows", fn := fun _ => fun
  | [d1, d2, d3, d4, d5] => { results := [.lit (.bool true)], args := [d1, d2, d3, d4, d5] }
  | _ => none }
def lanesNarrowsRow : OpenClaim := { program := "ytfdggebddcoeeaagreatdoor", sum := "f1ec46b8c3d9f965cf2fe1ce52e7e64816df7eaffa3c127e96d61b911894f578", func := "bodkin/bodkinlaw06.LanesNarrows", spec := "lanesNarrows", inPlace := ["internal/bytealg.IndexByteString", "internal/bytealg.IndexString", "internal/bytealg.CountString", "math.Float32frombits", "math.Float64frombits", "math.archTrunc", "math.Float64bits", "math.Float32bits", "math.sqrt", "math.archCeil", "math.archFloor", "math.RoundToEven"], unfollowed := true, recurses := true, named := ["bodkin/ops.more", "strings.asciiSpace", "unicode.White_Space", "internal/bytealg.MaxLen", "unicode/utf8.first", "unicode/utf8.acceptRanges", "math/bits.deBruijn64tab", "math/bits.divideError", "math/bits.overflowError"], apart := false, laid := [("math/bits.deBruijn64tab", laid_math_bits_deBruijn64tab), ("unicode/utf8.acceptRanges", laid_unicode_utf8_acceptRanges), ("unicode.White_Space", laid_unicode_White_Space), ("strings.asciiSpace", laid_strings_asciiSpace), ("bodkin/ops.more", laid_bodkin_ops_more), ("unicode/utf8.first", laid_unicode_utf8_first)] }
def LanesNarrowsSaid : Prop := lanesNarrowsRow.holds Tryz.pinned (OpenSpec.ofChange lanesNarrowsSpec)

/-- ITS FALSE NEIGHBOUR: 'it returns false'. Refute it at one input. -/
def lanesNarrowsWrong : ChangeSpec := { name := "lanesNarrows", fn := fun _ => fun
  | [d1, d2, d3, d4, d5] => { results := [.lit (.bool false)], args := [d1, d2, d3, d4, d5] }
  | _ => none }
def LanesNarrowsWrongFalsely : Prop := lanesNarrowsRow.holds Tryz.pinned (OpenSpec.ofChange lanesNarrowsWrong)

/-- 'bodkinlaw06.LanesWidens': WHATEVER THE INPUT: true; the input reads as it did. -/
def lanesWidensSpec : ChangeSpec := { name := "lanesWidens", fn := fun _ => fun
  | [d1, d2, d3, d4, d5] => { results := [.lit (.bool true)], args := [d1, d2, d3, d4, d5] }
  | _ => none }
def lanesWidensRow : OpenClaim := { program := "ytfdggebddcoeeaagreatdoor", sum := "f1ec46b8c3d9f965cf2fe1ce52e7e64816df7eaffa3c127e96d61b911894f578", func := "bodkin/bodkinlaw06.LanesWidens", spec := "lanesWidens", inPlace := ["internal/bytealg.IndexByteString", "internal/bytealg.IndexString", "internal/bytealg.CountString", "math.Float32frombits", "math.Float64frombits", "math.archTrunc", "math.Float64bits", "math.Float32bits", "math.sqrt", "math.archCeil", "math.archFloor", "math.RoundToEven"], unfollowed := true, recurses := true, named := ["bodkin/ops.more", "strings.asciiSpace", "unicode.White_Space", "internal/bytealg.MaxLen", "unicode/utf8.first", "unicode/utf8.acceptRanges", "math/bits.deBruijn64tab", "math/bits.divideError", "math/bits.overflowError"], apart := false, laid := [("math/bits.deBruijn64tab", laid_math_bits_deBruijn64tab), ("unicode/utf8.acceptRanges", laid_unicode_utf8_acceptRanges), ("unicode.White_Space", laid_unicode_White_Space), ("strings.asciiSpace", laid_strings_asciiSpace), ("bodkin/ops.more", laid_bodkin_ops_more), ("unicode/utf8.first", laid_unicode_utf8_first)] }
def LanesWidensSaid : Prop := lanesWidensRow.holds Tryz.pinned (OpenSpec.ofChange lanesWidensSpec)

/-- ITS FALSE NEIGHBOUR: 'it returns false'. Refute it at one input. -/
def lanesWidensWrong : ChangeSpec := { name := "lanesWidens", fn := fun _ => fun
  | [d1, d2, d3, d4, d5] => { results := [.lit (.bool false)], args := [d1, d2, d3, d4, d5] }
  | _ => none }
def LanesWidensWrongFalsely : Prop := lanesWidensRow.holds Tryz.pinned (OpenSpec.ofChange lanesWidensWrong)

/-- 'bodkinlaw06.LanesProducts': WHATEVER THE INPUT: true; the input reads as it did. -/
def lanesProductsSpec : ChangeSpec := { name := "lanesProducts", fn := fun _ => fun
  | [d1, d2, d3, d4, d5] => { results := [.lit (.bool true)], args := [d1, d2, d3, d4, d5] }
  | _ => none }
def lanesProductsRow : OpenClaim := { program := "ytfdggebddcoeeaagreatdoor", sum := "f1ec46b8c3d9f965cf2fe1ce52e7e64816df7eaffa3c127e96d61b911894f578", func := "bodkin/bodkinlaw06.LanesProducts", spec := "lanesProducts", inPlace := ["internal/bytealg.IndexByteString", "internal/bytealg.IndexString", "internal/bytealg.CountString", "math.Float32frombits", "math.Float64frombits", "math.archTrunc", "math.Float64bits", "math.Float32bits", "math.sqrt", "math.archCeil", "math.archFloor", "math.RoundToEven"], unfollowed := true, recurses := true, named := ["bodkin/ops.more", "strings.asciiSpace", "unicode.White_Space", "internal/bytealg.MaxLen", "unicode/utf8.first", "unicode/utf8.acceptRanges", "math/bits.deBruijn64tab", "math/bits.divideError", "math/bits.overflowError"], apart := false, laid := [("math/bits.deBruijn64tab", laid_math_bits_deBruijn64tab), ("unicode/utf8.acceptRanges", laid_unicode_utf8_acceptRanges), ("unicode.White_Space", laid_unicode_White_Space), ("strings.asciiSpace", laid_strings_asciiSpace), ("bodkin/ops.more", laid_bodkin_ops_more), ("unicode/utf8.first", laid_unicode_utf8_first)] }
def LanesProductsSaid : Prop := lanesProductsRow.holds Tryz.pinned (OpenSpec.ofChange lanesProductsSpec)

/-- ITS FALSE NEIGHBOUR: 'it returns false'. Refute it at one input. -/
def lanesProductsWrong : ChangeSpec := { name := "lanesProducts", fn := fun _ => fun
  | [d1, d2, d3, d4, d5] => { results := [.lit (.bool false)], args := [d1, d2, d3, d4, d5] }
  | _ => none }
def LanesProductsWrongFalsely : Prop := lanesProductsRow.holds Tryz.pinned (OpenSpec.ofChange lanesProductsWrong)

/-- 'bodkinlaw06.LanesTurns': WHATEVER THE INPUT: true; the input reads as it did. -/
def lanesTurnsSpec : ChangeSpec := { name := "lanesTurns", fn := fun _ => fun
  | [d1, d2, d3, d4, d5] => { results := [.lit (.bool true)], args := [d1, d2, d3, d4, d5] }
  | _ => none }
def lanesTurnsRow : OpenClaim := { program := "ytfdggebddcoeeaagreatdoor", sum := "f1ec46b8c3d9f965cf2fe1ce52e7e64816df7eaffa3c127e96d61b911894f578", func := "bodkin/bodkinlaw06.LanesTurns", spec := "lanesTurns", inPlace := ["internal/bytealg.IndexByteString", "internal/bytealg.IndexString", "internal/bytealg.CountString", "math.Float32frombits", "math.Float64frombits", "math.archTrunc", "math.Float64bits", "math.Float32bits", "math.sqrt", "math.archCeil", "math.archFloor", "math.RoundToEven"], unfollowed := true, recurses := true, named := ["bodkin/ops.more", "strings.asciiSpace", "unicode.White_Space", "internal/bytealg.MaxLen", "unicode/utf8.first", "unicode/utf8.acceptRanges", "math/bits.deBruijn64tab", "math/bits.divideError", "math/bits.overflowError"], apart := false, laid := [("math/bits.deBruijn64tab", laid_math_bits_deBruijn64tab), ("unicode/utf8.acceptRanges", laid_unicode_utf8_acceptRanges), ("unicode.White_Space", laid_unicode_White_Space), ("strings.asciiSpace", laid_strings_asciiSpace), ("bodkin/ops.more", laid_bodkin_ops_more), ("unicode/utf8.first", laid_unicode_utf8_first)] }
def LanesTurnsSaid : Prop := lanesTurnsRow.holds Tryz.pinned (OpenSpec.ofChange lanesTurnsSpec)

/-- ITS FALSE NEIGHBOUR: 'it returns false'. Refute it at one input. -/
def lanesTurnsWrong : ChangeSpec := { name := "lanesTurns", fn := fun _ => fun
  | [d1, d2, d3, d4, d5] => { results := [.lit (.bool false)], args := [d1, d2, d3, d4, d5] }
  | _ => none }
def LanesTurnsWrongFalsely : Prop := lanesTurnsRow.holds Tryz.pinned (OpenSpec.ofChange lanesTurnsWrong)

/-- 'bodkinlaw06.LanesChooses': WHATEVER THE INPUT: true; the input reads as it did. -/
def lanesChoosesSpec : ChangeSpec := { name := "lanesChooses", fn := fun _ => fun
  | [d1, d2, d3, d4, d5] => { results := [.lit (.bool true)], args := [d1, d2, d3, d4, d5] }
  | _ => none }
def lanesChoosesRow : OpenClaim := { program := "ytfdggebddcoeeaagreatdoor", sum := "f1ec46b8c3d9f965cf2fe1ce52e7e64816df7eaffa3c127e96d61b911894f578", func := "bodkin/bodkinlaw06.LanesChooses", spec := "lanesChooses", inPlace := ["internal/bytealg.IndexByteString", "internal/bytealg.IndexString", "internal/bytealg.CountString", "math.Float32frombits", "math.Float64frombits", "math.archTrunc", "math.Float64bits", "math.Float32bits", "math.sqrt", "math.archCeil", "math.archFloor", "math.RoundToEven"], unfollowed := true, recurses := true, named := ["bodkin/ops.more", "strings.asciiSpace", "unicode.White_Space", "internal/bytealg.MaxLen", "unicode/utf8.first", "unicode/utf8.acceptRanges", "math/bits.deBruijn64tab", "math/bits.divideError", "math/bits.overflowError"], apart := false, laid := [("math/bits.deBruijn64tab", laid_math_bits_deBruijn64tab), ("unicode/utf8.acceptRanges", laid_unicode_utf8_acceptRanges), ("unicode.White_Space", laid_unicode_White_Space), ("strings.asciiSpace", laid_strings_asciiSpace), ("bodkin/ops.more", laid_bodkin_ops_more), ("unicode/utf8.first", laid_unicode_utf8_first)] }
def LanesChoosesSaid : Prop := lanesChoosesRow.holds Tryz.pinned (OpenSpec.ofChange lanesChoosesSpec)

/-- ITS FALSE NEIGHBOUR: 'it returns false'. Refute it at one input. -/
def lanesChoosesWrong : ChangeSpec := { name := "lanesChooses", fn := fun _ => fun
  | [d1, d2, d3, d4, d5] => { results := [.lit (.bool false)], args := [d1, d2, d3, d4, d5] }
  | _ => none }
def LanesChoosesWrongFalsely : Prop := lanesChoosesRow.holds Tryz.pinned (OpenSpec.ofChange lanesChoosesWrong)

/-- 'bodkinlaw06.LanesBits': WHATEVER THE INPUT: true; the input reads as it did. -/
def lanesBitsSpec : ChangeSpec := { name := "lanesBits", fn := fun _ => fun
  | [d1, d2, d3, d4, d5] => { results := [.lit (.bool true)], args := [d1, d2, d3, d4, d5] }
  | _ => none }
def lanesBitsRow : OpenClaim := { program := "ytfdggebddcoeeaagreatdoor", sum := "f1ec46b8c3d9f965cf2fe1ce52e7e64816df7eaffa3c127e96d61b911894f578", func := "bodkin/bodkinlaw06.LanesBits", spec := "lanesBits", inPlace := ["internal/bytealg.IndexByteString", "internal/bytealg.IndexString", "internal/bytealg.CountString", "math.Float32frombits", "math.Float64frombits", "math.archTrunc", "math.Float64bits", "math.Float32bits", "math.sqrt", "math.archCeil", "math.archFloor", "math.RoundToEven"], unfollowed := true, recurses := true, named := ["bodkin/ops.more", "strings.asciiSpace", "unicode.White_Space", "internal/bytealg.MaxLen", "unicode/utf8.first", "unicode/utf8.acceptRanges", "math/bits.deBruijn64tab", "math/bits.divideError", "math/bits.overflowError"], apart := false, laid := [("math/bits.deBruijn64tab", laid_math_bits_deBruijn64tab), ("unicode/utf8.acceptRanges", laid_unicode_utf8_acceptRanges), ("unicode.White_Space", laid_unicode_White_Space), ("strings.asciiSpace", laid_strings_asciiSpace), ("bodkin/ops.more", laid_bodkin_ops_more), ("unicode/utf8.first", laid_unicode_utf8_first)] }
def LanesBitsSaid : Prop := lanesBitsRow.holds Tryz.pinned (OpenSpec.ofChange lanesBitsSpec)

/-- ITS FALSE NEIGHBOUR: 'it returns false'. Refute it at one input. -/
def lanesBitsWrong : ChangeSpec := { name := "lanesBits", fn := fun _ => fun
  | [d1, d2, d3, d4, d5] => { results := [.lit (.bool false)], args := [d1, d2, d3, d4, d5] }
  | _ => none }
def LanesBitsWrongFalsely : Prop := lanesBitsRow.holds Tryz.pinned (OpenSpec.ofChange lanesBitsWrong)

/- THE SECOND FORM. 'bulk': how many values and letters a reading holds, each counted each time it is reached (what is shared counts as often as it is met; a slice's spare places count too). A statement '..UptoSaid' is the law's where the arguments, and the package variables that the reading takes, are together of bulk at most 1048576: NARROWER than '..Said'. Prove '..Said' where nothing that the law and all that it calls make is longer than what came in: it says more and counts as full. Else prove '..UptoSaid'. A law counts once. -/
mutual
def uptoBulk {H : Type} : DataW H → Nat
  | .lit (.string bytes) => bytes.length + 1
  | .lit _ => 1
  | .nil => 1
  | .ptr d => uptoBulk d + 1
  | .slice elems spare => uptoBulkAll elems + uptoBulkAll spare + 1
  | .agg parts => uptoBulkAll parts + 1
  | .iface _ d => uptoBulk d + 1
  | .map entries => uptoBulkEntries entries + 1
  | .held _ => 1
def uptoBulkAll {H : Type} : List (DataW H) → Nat
  | [] => 0
  | d :: r => uptoBulk d + uptoBulkAll r
def uptoBulkEntries {H : Type} : List (Lit × DataW H) → Nat
  | [] => 0
  | x :: r => uptoBulkEntry x + uptoBulkEntries r
def uptoBulkEntry {H : Type} : Lit × DataW H → Nat
  | (.string bytes, d) => bytes.length + uptoBulk d + 1
  | (_, d) => uptoBulk d + 1
 end
def uptoSmall : (H : Type) → List (DataW H) → Bool := fun _ ds => decide (uptoBulkAll ds ≤ 1048576)
def OpenSpec.upto (s : _root_.Go.ChangeSpec) : _root_.Go.OpenSpec := { _root_.Go.OpenSpec.ofChange s with cond := some uptoSmall }

/-- 'bodkinlaw06.LanesReplaces', WHERE WHAT IT READS IS OF BULK AT MOST 1048576: true; the input reads as it did. -/
def lanesReplacesUptoRow : OpenClaim := { program := "ytfdggebddcoeeaagreatdoor", sum := "f1ec46b8c3d9f965cf2fe1ce52e7e64816df7eaffa3c127e96d61b911894f578", func := "bodkin/bodkinlaw06.LanesReplaces", spec := "lanesReplaces", inPlace := ["internal/bytealg.IndexByteString", "internal/bytealg.IndexString", "internal/bytealg.CountString"], unfollowed := true, recurses := true, named := ["bodkin/ops.more", "strings.asciiSpace", "unicode.White_Space", "internal/bytealg.MaxLen", "unicode/utf8.first", "unicode/utf8.acceptRanges", "math/bits.deBruijn64tab", "math/bits.divideError", "math/bits.overflowError"], apart := false, laid := [("math/bits.deBruijn64tab", laid_math_bits_deBruijn64tab), ("unicode/utf8.acceptRanges", laid_unicode_utf8_acceptRanges), ("unicode.White_Space", laid_unicode_White_Space), ("strings.asciiSpace", laid_strings_asciiSpace), ("bodkin/ops.more", laid_bodkin_ops_more), ("unicode/utf8.first", laid_unicode_utf8_first)], narrowed := true }
def LanesReplacesUptoSaid : Prop := lanesReplacesUptoRow.holds Tryz.pinned (OpenSpec.upto lanesReplacesSpec)

/-- 'bodkinlaw06.LanesDo', WHERE WHAT IT READS IS OF BULK AT MOST 1048576: true; the input reads as it did. -/
def lanesDoUptoRow : OpenClaim := { program := "ytfdggebddcoeeaagreatdoor", sum := "f1ec46b8c3d9f965cf2fe1ce52e7e64816df7eaffa3c127e96d61b911894f578", func := "bodkin/bodkinlaw06.LanesDo", spec := "lanesDo", inPlace := ["internal/bytealg.IndexByteString", "internal/bytealg.IndexString", "internal/bytealg.CountString", "math.Float32frombits", "math.Float64frombits", "math.archTrunc", "math.Float64bits", "math.Float32bits", "math.sqrt", "math.archCeil", "math.archFloor", "math.RoundToEven"], unfollowed := true, recurses := true, named := ["bodkin/ops.more", "strings.asciiSpace", "unicode.White_Space", "internal/bytealg.MaxLen", "unicode/utf8.first", "unicode/utf8.acceptRanges", "math/bits.deBruijn64tab", "math/bits.divideError", "math/bits.overflowError"], apart := false, laid := [("math/bits.deBruijn64tab", laid_math_bits_deBruijn64tab), ("unicode/utf8.acceptRanges", laid_unicode_utf8_acceptRanges), ("unicode.White_Space", laid_unicode_White_Space), ("strings.asciiSpace", laid_strings_asciiSpace), ("bodkin/ops.more", laid_bodkin_ops_more), ("unicode/utf8.first", laid_unicode_utf8_first)], narrowed := true }
def LanesDoUptoSaid : Prop := lanesDoUptoRow.holds Tryz.pinned (OpenSpec.upto lanesDoSpec)

/-- 'bodkinlaw06.LanesAll', WHERE WHAT IT READS IS OF BULK AT MOST 1048576: true; the input reads as it did. -/
def lanesAllUptoRow : OpenClaim := { program := "ytfdggebddcoeeaagreatdoor", sum := "f1ec46b8c3d9f965cf2fe1ce52e7e64816df7eaffa3c127e96d61b911894f578", func := "bodkin/bodkinlaw06.LanesAll", spec := "lanesAll", inPlace := ["internal/bytealg.IndexByteString", "internal/bytealg.IndexString", "internal/bytealg.CountString", "math.Float32frombits", "math.Float64frombits", "math.archTrunc", "math.Float64bits", "math.Float32bits", "math.sqrt", "math.archCeil", "math.archFloor", "math.RoundToEven"], unfollowed := true, recurses := true, named := ["bodkin/ops.more", "strings.asciiSpace", "unicode.White_Space", "internal/bytealg.MaxLen", "unicode/utf8.first", "unicode/utf8.acceptRanges", "math/bits.deBruijn64tab", "math/bits.divideError", "math/bits.overflowError"], apart := false, laid := [("math/bits.deBruijn64tab", laid_math_bits_deBruijn64tab), ("unicode/utf8.acceptRanges", laid_unicode_utf8_acceptRanges), ("unicode.White_Space", laid_unicode_White_Space), ("strings.asciiSpace", laid_strings_asciiSpace), ("bodkin/ops.more", laid_bodkin_ops_more), ("unicode/utf8.first", laid_unicode_utf8_first)], narrowed := true }
def LanesAllUptoSaid : Prop := lanesAllUptoRow.holds Tryz.pinned (OpenSpec.upto lanesAllSpec)

/-- 'bodkinlaw06.LanesMoves', WHERE WHAT IT READS IS OF BULK AT MOST 1048576: true; the input reads as it did. -/
def lanesMovesUptoRow : OpenClaim := { program := "ytfdggebddcoeeaagreatdoor", sum := "f1ec46b8c3d9f965cf2fe1ce52e7e64816df7eaffa3c127e96d61b911894f578", func := "bodkin/bodkinlaw06.LanesMoves", spec := "lanesMoves", inPlace := ["internal/bytealg.IndexByteString", "internal/bytealg.IndexString", "internal/bytealg.CountString", "math.Float32frombits", "math.Float64frombits", "math.archTrunc", "math.Float64bits", "math.Float32bits", "math.sqrt", "math.archCeil", "math.archFloor", "math.RoundToEven"], unfollowed := true, recurses := true, named := ["bodkin/ops.more", "strings.asciiSpace", "unicode.White_Space", "internal/bytealg.MaxLen", "unicode/utf8.first", "unicode/utf8.acceptRanges", "math/bits.deBruijn64tab", "math/bits.divideError", "math/bits.overflowError"], apart := false, laid := [("math/bits.deBruijn64tab", laid_math_bits_deBruijn64tab), ("unicode/utf8.acceptRanges", laid_unicode_utf8_acceptRanges), ("unicode.White_Space", laid_unicode_White_Space), ("strings.asciiSpace", laid_strings_asciiSpace), ("bodkin/ops.more", laid_bodkin_ops_more), ("unicode/utf8.first", laid_unicode_utf8_first)], narrowed := true }
def LanesMovesUptoSaid : Prop := lanesMovesUptoRow.holds Tryz.pinned (OpenSpec.upto lanesMovesSpec)

/-- 'bodkinlaw06.LanesStand', WHERE WHAT IT READS IS OF BULK AT MOST 1048576: true; the input reads as it did. -/
def lanesStandUptoRow : OpenClaim := { program := "ytfdggebddcoeeaagreatdoor", sum := "f1ec46b8c3d9f965cf2fe1ce52e7e64816df7eaffa3c127e96d61b911894f578", func := "bodkin/bodkinlaw06.LanesStand", spec := "lanesStand", inPlace := ["internal/bytealg.IndexByteString", "internal/bytealg.IndexString", "internal/bytealg.CountString", "math.Float32frombits", "math.Float64frombits", "math.archTrunc", "math.Float64bits", "math.Float32bits", "math.sqrt", "math.archCeil", "math.archFloor", "math.RoundToEven"], unfollowed := true, recurses := true, named := ["bodkin/ops.more", "strings.asciiSpace", "unicode.White_Space", "internal/bytealg.MaxLen", "unicode/utf8.first", "unicode/utf8.acceptRanges", "math/bits.deBruijn64tab", "math/bits.divideError", "math/bits.overflowError"], apart := false, laid := [("math/bits.deBruijn64tab", laid_math_bits_deBruijn64tab), ("unicode/utf8.acceptRanges", laid_unicode_utf8_acceptRanges), ("unicode.White_Space", laid_unicode_White_Space), ("strings.asciiSpace", laid_strings_asciiSpace), ("bodkin/ops.more", laid_bodkin_ops_more), ("unicode/utf8.first", laid_unicode_utf8_first)], narrowed := true }
def LanesStandUptoSaid : Prop := lanesStandUptoRow.holds Tryz.pinned (OpenSpec.upto lanesStandSpec)

/-- 'bodkinlaw06.LanesFloatsStand', WHERE WHAT IT READS IS OF BULK AT MOST 1048576: true; the input reads as it did. -/
def lanesFloatsStandUptoRow : OpenClaim := { program := "ytfdggebddcoeeaagreatdoor", sum := "f1ec46b8c3d9f965cf2fe1ce52e7e64816df7eaffa3c127e96d61b911894f578", func := "bodkin/bodkinlaw06.LanesFloatsStand", spec := "lanesFloatsStand", inPlace := ["internal/bytealg.IndexByteString", "internal/bytealg.IndexString", "internal/bytealg.CountString", "math.Float32frombits", "math.Float64frombits", "math.archTrunc", "math.Float64bits", "math.Float32bits", "math.sqrt", "math.archCeil", "math.archFloor", "math.RoundToEven"], unfollowed := true, recurses := true, named := ["bodkin/ops.more", "strings.asciiSpace", "unicode.White_Space", "internal/bytealg.MaxLen", "unicode/utf8.first", "unicode/utf8.acceptRanges", "math/bits.deBruijn64tab", "math/bits.divideError", "math/bits.overflowError"], apart := false, laid := [("math/bits.deBruijn64tab", laid_math_bits_deBruijn64tab), ("unicode/utf8.acceptRanges", laid_unicode_utf8_acceptRanges), ("unicode.White_Space", laid_unicode_White_Space), ("strings.asciiSpace", laid_strings_asciiSpace), ("bodkin/ops.more", laid_bodkin_ops_more), ("unicode/utf8.first", laid_unicode_utf8_first)], narrowed := true }
def LanesFloatsStandUptoSaid : Prop := lanesFloatsStandUptoRow.holds Tryz.pinned (OpenSpec.upto lanesFloatsStandSpec)

/-- 'bodkinlaw06.LanesSums', WHERE WHAT IT READS IS OF BULK AT MOST 1048576: true; the input reads as it did. -/
def lanesSumsUptoRow : OpenClaim := { program := "ytfdggebddcoeeaagreatdoor", sum := "f1ec46b8c3d9f965cf2fe1ce52e7e64816df7eaffa3c127e96d61b911894f578", func := "bodkin/bodkinlaw06.LanesSums", spec := "lanesSums", inPlace := ["internal/bytealg.IndexByteString", "internal/bytealg.IndexString", "internal/bytealg.CountString", "math.Float32frombits", "math.Float64frombits", "math.archTrunc", "math.Float64bits", "math.Float32bits", "math.sqrt", "math.archCeil", "math.archFloor", "math.RoundToEven"], unfollowed := true, recurses := true, named := ["bodkin/ops.more", "strings.asciiSpace", "unicode.White_Space", "internal/bytealg.MaxLen", "unicode/utf8.first", "unicode/utf8.acceptRanges", "math/bits.deBruijn64tab", "math/bits.divideError", "math/bits.overflowError"], apart := false, laid := [("math/bits.deBruijn64tab", laid_math_bits_deBruijn64tab), ("unicode/utf8.acceptRanges", laid_unicode_utf8_acceptRanges), ("unicode.White_Space", laid_unicode_White_Space), ("strings.asciiSpace", laid_strings_asciiSpace), ("bodkin/ops.more", laid_bodkin_ops_more), ("unicode/utf8.first", laid_unicode_utf8_first)], narrowed := true }
def LanesSumsUptoSaid : Prop := lanesSumsUptoRow.holds Tryz.pinned (OpenSpec.upto lanesSumsSpec)

/-- 'bodkinlaw06.LanesEnds', WHERE WHAT IT READS IS OF BULK AT MOST 1048576: true; the input reads as it did. -/
def lanesEndsUptoRow : OpenClaim := { program := "ytfdggebddcoeeaagreatdoor", sum := "f1ec46b8c3d9f965cf2fe1ce52e7e64816df7eaffa3c127e96d61b911894f578", func := "bodkin/bodkinlaw06.LanesEnds", spec := "lanesEnds", inPlace := ["internal/bytealg.IndexByteString", "internal/bytealg.IndexString", "internal/bytealg.CountString", "math.Float32frombits", "math.Float64frombits", "math.archTrunc", "math.Float64bits", "math.Float32bits", "math.sqrt", "math.archCeil", "math.archFloor", "math.RoundToEven"], unfollowed := true, recurses := true, named := ["bodkin/ops.more", "strings.asciiSpace", "unicode.White_Space", "internal/bytealg.MaxLen", "unicode/utf8.first", "unicode/utf8.acceptRanges", "math/bits.deBruijn64tab", "math/bits.divideError", "math/bits.overflowError"], apart := false, laid := [("math/bits.deBruijn64tab", laid_math_bits_deBruijn64tab), ("unicode/utf8.acceptRanges", laid_unicode_utf8_acceptRanges), ("unicode.White_Space", laid_unicode_White_Space), ("strings.asciiSpace", laid_strings_asciiSpace), ("bodkin/ops.more", laid_bodkin_ops_more), ("unicode/utf8.first", laid_unicode_utf8_first)], narrowed := true }
def LanesEndsUptoSaid : Prop := lanesEndsUptoRow.holds Tryz.pinned (OpenSpec.upto lanesEndsSpec)

/-- 'bodkinlaw06.LanesOnes', WHERE WHAT IT READS IS OF BULK AT MOST 1048576: true; the input reads as it did. -/
def lanesOnesUptoRow : OpenClaim := { program := "ytfdggebddcoeeaagreatdoor", sum := "f1ec46b8c3d9f965cf2fe1ce52e7e64816df7eaffa3c127e96d61b911894f578", func := "bodkin/bodkinlaw06.LanesOnes", spec := "lanesOnes", inPlace := ["internal/bytealg.IndexByteString", "internal/bytealg.IndexString", "internal/bytealg.CountString", "math.Float32frombits", "math.Float64frombits", "math.archTrunc", "math.Float64bits", "math.Float32bits", "math.sqrt", "math.archCeil", "math.archFloor", "math.RoundToEven"], unfollowed := true, recurses := true, named := ["bodkin/ops.more", "strings.asciiSpace", "unicode.White_Space", "internal/bytealg.MaxLen", "unicode/utf8.first", "unicode/utf8.acceptRanges", "math/bits.deBruijn64tab", "math/bits.divideError", "math/bits.overflowError"], apart := false, laid := [("math/bits.deBruijn64tab", laid_math_bits_deBruijn64tab), ("unicode/utf8.acceptRanges", laid_unicode_utf8_acceptRanges), ("unicode.White_Space", laid_unicode_White_Space), ("strings.asciiSpace", laid_strings_asciiSpace), ("bodkin/ops.more", laid_bodkin_ops_more), ("unicode/utf8.first", laid_unicode_utf8_first)], narrowed := true }
def LanesOnesUptoSaid : Prop := lanesOnesUptoRow.holds Tryz.pinned (OpenSpec.upto lanesOnesSpec)

/-- 'bodkinlaw06.LanesFloats', WHERE WHAT IT READS IS OF BULK AT MOST 1048576: true; the input reads as it did. -/
def lanesFloatsUptoRow : OpenClaim := { program := "ytfdggebddcoeeaagreatdoor", sum := "f1ec46b8c3d9f965cf2fe1ce52e7e64816df7eaffa3c127e96d61b911894f578", func := "bodkin/bodkinlaw06.LanesFloats", spec := "lanesFloats", inPlace := ["internal/bytealg.IndexByteString", "internal/bytealg.IndexString", "internal/bytealg.CountString", "math.Float32frombits", "math.Float64frombits", "math.archTrunc", "math.Float64bits", "math.Float32bits", "math.sqrt", "math.archCeil", "math.archFloor", "math.RoundToEven"], unfollowed := true, recurses := true, named := ["bodkin/ops.more", "strings.asciiSpace", "unicode.White_Space", "internal/bytealg.MaxLen", "unicode/utf8.first", "unicode/utf8.acceptRanges", "math/bits.deBruijn64tab", "math/bits.divideError", "math/bits.overflowError"], apart := false, laid := [("math/bits.deBruijn64tab", laid_math_bits_deBruijn64tab), ("unicode/utf8.acceptRanges", laid_unicode_utf8_acceptRanges), ("unicode.White_Space", laid_unicode_White_Space), ("strings.asciiSpace", laid_strings_asciiSpace), ("bodkin/ops.more", laid_bodkin_ops_more), ("unicode/utf8.first", laid_unicode_utf8_first)], narrowed := true }
def LanesFloatsUptoSaid : Prop := lanesFloatsUptoRow.holds Tryz.pinned (OpenSpec.upto lanesFloatsSpec)

/-- 'bodkinlaw06.LanesFloatOnes', WHERE WHAT IT READS IS OF BULK AT MOST 1048576: true; the input reads as it did. -/
def lanesFloatOnesUptoRow : OpenClaim := { program := "ytfdggebddcoeeaagreatdoor", sum := "f1ec46b8c3d9f965cf2fe1ce52e7e64816df7eaffa3c127e96d61b911894f578", func := "bodkin/bodkinlaw06.LanesFloatOnes", spec := "lanesFloatOnes", inPlace := ["internal/bytealg.IndexByteString", "internal/bytealg.IndexString", "internal/bytealg.CountString", "math.Float32frombits", "math.Float64frombits", "math.archTrunc", "math.Float64bits", "math.Float32bits", "math.sqrt", "math.archCeil", "math.archFloor", "math.RoundToEven"], unfollowed := true, recurses := true, named := ["bodkin/ops.more", "strings.asciiSpace", "unicode.White_Space", "internal/bytealg.MaxLen", "unicode/utf8.first", "unicode/utf8.acceptRanges", "math/bits.deBruijn64tab", "math/bits.divideError", "math/bits.overflowError"], apart := false, laid := [("math/bits.deBruijn64tab", laid_math_bits_deBruijn64tab), ("unicode/utf8.acceptRanges", laid_unicode_utf8_acceptRanges), ("unicode.White_Space", laid_unicode_White_Space), ("strings.asciiSpace", laid_strings_asciiSpace), ("bodkin/ops.more", laid_bodkin_ops_more), ("unicode/utf8.first", laid_unicode_utf8_first)], narrowed := true }
def LanesFloatOnesUptoSaid : Prop := lanesFloatOnesUptoRow.holds Tryz.pinned (OpenSpec.upto lanesFloatOnesSpec)

/-- 'bodkinlaw06.LanesNarrows', WHERE WHAT IT READS IS OF BULK AT MOST 1048576: true; the input reads as it did. -/
def lanesNarrowsUptoRow : OpenClaim := { program := "ytfdggebddcoeeaagreatdoor", sum := "f1ec46b8c3d9f965cf2fe1ce52e7e64816df7eaffa3c127e96d61b911894f578", func := "bodkin/bodkinlaw06.LanesNarrows", spec := "lanesNarrows", inPlace := ["internal/bytealg.IndexByteString", "internal/bytealg.IndexString", "internal/bytealg.CountString", "math.Float32frombits", "math.Float64frombits", "math.archTrunc", "math.Float64bits", "math.Float32bits", "math.sqrt", "math.archCeil", "math.archFloor", "math.RoundToEven"], unfollowed := true, recurses := true, named := ["bodkin/ops.more", "strings.asciiSpace", "unicode.White_Space", "internal/bytealg.MaxLen", "unicode/utf8.first", "unicode/utf8.acceptRanges", "math/bits.deBruijn64tab", "math/bits.divideError", "math/bits.overflowError"], apart := false, laid := [("math/bits.deBruijn64tab", laid_math_bits_deBruijn64tab), ("unicode/utf8.acceptRanges", laid_unicode_utf8_acceptRanges), ("unicode.White_Space", laid_unicode_White_Space), ("strings.asciiSpace", laid_strings_asciiSpace), ("bodkin/ops.more", laid_bodkin_ops_more), ("unicode/utf8.first", laid_unicode_utf8_first)], narrowed := true }
def LanesNarrowsUptoSaid : Prop := lanesNarrowsUptoRow.holds Tryz.pinned (OpenSpec.upto lanesNarrowsSpec)

/-- 'bodkinlaw06.LanesWidens', WHERE WHAT IT READS IS OF BULK AT MOST 1048576: true; the input reads as it did. -/
def lanesWidensUptoRow : OpenClaim := { program := "ytfdggebddcoeeaagreatdoor", sum := "f1ec46b8c3d9f965cf2fe1ce52e7e64816df7eaffa3c127e96d61b911894f578", func := "bodkin/bodkinlaw06.LanesWidens", spec := "lanesWidens", inPlace := ["internal/bytealg.IndexByteString", "internal/bytealg.IndexString", "internal/bytealg.CountString", "math.Float32frombits", "math.Float64frombits", "math.archTrunc", "math.Float64bits", "math.Float32bits", "math.sqrt", "math.archCeil", "math.archFloor", "math.RoundToEven"], unfollowed := true, recurses := true, named := ["bodkin/ops.more", "strings.asciiSpace", "unicode.White_Space", "internal/bytealg.MaxLen", "unicode/utf8.first", "unicode/utf8.acceptRanges", "math/bits.deBruijn64tab", "math/bits.divideError", "math/bits.overflowError"], apart := false, laid := [("math/bits.deBruijn64tab", laid_math_bits_deBruijn64tab), ("unicode/utf8.acceptRanges", laid_unicode_utf8_acceptRanges), ("unicode.White_Space", laid_unicode_White_Space), ("strings.asciiSpace", laid_strings_asciiSpace), ("bodkin/ops.more", laid_bodkin_ops_more), ("unicode/utf8.first", laid_unicode_utf8_first)], narrowed := true }
def LanesWidensUptoSaid : Prop := lanesWidensUptoRow.holds Tryz.pinned (OpenSpec.upto lanesWidensSpec)

/-- 'bodkinlaw06.LanesProducts', WHERE WHAT IT READS IS OF BULK AT MOST 1048576: true; the input reads as it did. -/
def lanesProductsUptoRow : OpenClaim := { program := "ytfdggebddcoeeaagreatdoor", sum := "f1ec46b8c3d9f965cf2fe1ce52e7e64816df7eaffa3c127e96d61b911894f578", func := "bodkin/bodkinlaw06.LanesProducts", spec := "lanesProducts", inPlace := ["internal/bytealg.IndexByteString", "internal/bytealg.IndexString", "internal/bytealg.CountString", "math.Float32frombits", "math.Float64frombits", "math.archTrunc", "math.Float64bits", "math.Float32bits", "math.sqrt", "math.archCeil", "math.archFloor", "math.RoundToEven"], unfollowed := true, recurses := true, named := ["bodkin/ops.more", "strings.asciiSpace", "unicode.White_Space", "internal/bytealg.MaxLen", "unicode/utf8.first", "unicode/utf8.acceptRanges", "math/bits.deBruijn64tab", "math/bits.divideError", "math/bits.overflowError"], apart := false, laid := [("math/bits.deBruijn64tab", laid_math_bits_deBruijn64tab), ("unicode/utf8.acceptRanges", laid_unicode_utf8_acceptRanges), ("unicode.White_Space", laid_unicode_White_Space), ("strings.asciiSpace", laid_strings_asciiSpace), ("bodkin/ops.more", laid_bodkin_ops_more), ("unicode/utf8.first", laid_unicode_utf8_first)], narrowed := true }
def LanesProductsUptoSaid : Prop := lanesProductsUptoRow.holds Tryz.pinned (OpenSpec.upto lanesProductsSpec)

/-- 'bodkinlaw06.LanesTurns', WHERE WHAT IT READS IS OF BULK AT MOST 1048576: true; the input reads as it did. -/
def lanesTurnsUptoRow : OpenClaim := { program := "ytfdggebddcoeeaagreatdoor", sum := "f1ec46b8c3d9f965cf2fe1ce52e7e64816df7eaffa3c127e96d61b911894f578", func := "bodkin/bodkinlaw06.LanesTurns", spec := "lanesTurns", inPlace := ["internal/bytealg.IndexByteString", "internal/bytealg.IndexString", "internal/bytealg.CountString", "math.Float32frombits", "math.Float64frombits", "math.archTrunc", "math.Float64bits", "math.Float32bits", "math.sqrt", "math.archCeil", "math.archFloor", "math.RoundToEven"], unfollowed := true, recurses := true, named := ["bodkin/ops.more", "strings.asciiSpace", "unicode.White_Space", "internal/bytealg.MaxLen", "unicode/utf8.first", "unicode/utf8.acceptRanges", "math/bits.deBruijn64tab", "math/bits.divideError", "math/bits.overflowError"], apart := false, laid := [("math/bits.deBruijn64tab", laid_math_bits_deBruijn64tab), ("unicode/utf8.acceptRanges", laid_unicode_utf8_acceptRanges), ("unicode.White_Space", laid_unicode_White_Space), ("strings.asciiSpace", laid_strings_asciiSpace), ("bodkin/ops.more", laid_bodkin_ops_more), ("unicode/utf8.first", laid_unicode_utf8_first)], narrowed := true }
def LanesTurnsUptoSaid : Prop := lanesTurnsUptoRow.holds Tryz.pinned (OpenSpec.upto lanesTurnsSpec)

/-- 'bodkinlaw06.LanesChooses', WHERE WHAT IT READS IS OF BULK AT MOST 1048576: true; the input reads as it did. -/
def lanesChoosesUptoRow : OpenClaim := { program := "ytfdggebddcoeeaagreatdoor", sum := "f1ec46b8c3d9f965cf2fe1ce52e7e64816df7eaffa3c127e96d61b911894f578", func := "bodkin/bodkinlaw06.LanesChooses", spec := "lanesChooses", inPlace := ["internal/bytealg.IndexByteString", "internal/bytealg.IndexString", "internal/bytealg.CountString", "math.Float32frombits", "math.Float64frombits", "math.archTrunc", "math.Float64bits", "math.Float32bits", "math.sqrt", "math.archCeil", "math.archFloor", "math.RoundToEven"], unfollowed := true, recurses := true, named := ["bodkin/ops.more", "strings.asciiSpace", "unicode.White_Space", "internal/bytealg.MaxLen", "unicode/utf8.first", "unicode/utf8.acceptRanges", "math/bits.deBruijn64tab", "math/bits.divideError", "math/bits.overflowError"], apart := false, laid := [("math/bits.deBruijn64tab", laid_math_bits_deBruijn64tab), ("unicode/utf8.acceptRanges", laid_unicode_utf8_acceptRanges), ("unicode.White_Space", laid_unicode_White_Space), ("strings.asciiSpace", laid_strings_asciiSpace), ("bodkin/ops.more", laid_bodkin_ops_more), ("unicode/utf8.first", laid_unicode_utf8_first)], narrowed := true }
def LanesChoosesUptoSaid : Prop := lanesChoosesUptoRow.holds Tryz.pinned (OpenSpec.upto lanesChoosesSpec)

/-- 'bodkinlaw06.LanesBits', WHERE WHAT IT READS IS OF BULK AT MOST 1048576: true; the input reads as it did. -/
def lanesBitsUptoRow : OpenClaim := { program := "ytfdggebddcoeeaagreatdoor", sum := "f1ec46b8c3d9f965cf2fe1ce52e7e64816df7eaffa3c127e96d61b911894f578", func := "bodkin/bodkinlaw06.LanesBits", spec := "lanesBits", inPlace := ["internal/bytealg.IndexByteString", "internal/bytealg.IndexString", "internal/bytealg.CountString", "math.Float32frombits", "math.Float64frombits", "math.archTrunc", "math.Float64bits", "math.Float32bits", "math.sqrt", "math.archCeil", "math.archFloor", "math.RoundToEven"], unfollowed := true, recurses := true, named := ["bodkin/ops.more", "strings.asciiSpace", "unicode.White_Space", "internal/bytealg.MaxLen", "unicode/utf8.first", "unicode/utf8.acceptRanges", "math/bits.deBruijn64tab", "math/bits.divideError", "math/bits.overflowError"], apart := false, laid := [("math/bits.deBruijn64tab", laid_math_bits_deBruijn64tab), ("unicode/utf8.acceptRanges", laid_unicode_utf8_acceptRanges), ("unicode.White_Space", laid_unicode_White_Space), ("strings.asciiSpace", laid_strings_asciiSpace), ("bodkin/ops.more", laid_bodkin_ops_more), ("unicode/utf8.first", laid_unicode_utf8_first)], narrowed := true }
def LanesBitsUptoSaid : Prop := lanesBitsUptoRow.holds Tryz.pinned (OpenSpec.upto lanesBitsSpec)

end Rows
end Go.Proofs.YtfdggebddcoeeaaGreatDoor
