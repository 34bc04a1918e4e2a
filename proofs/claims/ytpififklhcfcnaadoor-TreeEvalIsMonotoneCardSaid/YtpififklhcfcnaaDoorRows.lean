/-
  NARROWER THAN 'FOR EVERY INPUT', by the rows' own cells (each row's printed sentence says how): TreeEvalMatchesReference: loops, laid · TreeEvalIsMonotone: loops, laid · TreeComposition: loops, laid · TreeDepthBounds: loops, laid · TreeCheckMatchesReference: loops, laid.
  DERIVED. THE GIVEN ROWS OF THIS SEAT. 5 by the template 'for every input the law returns true; each argument reads behind the call as it read before'; 0 by the template 'total and deterministic' (their statements: YtpififklhcfcnaaDoorTotals.lean).
  GIVEN WITH THE SEED: the statements are not yours to turn. If you find one false, say at which input.
  Laid BY PROGRAM, IN A SANDBOX (cutbox-rows.mjs): the forced cells as the released guide's own fill.sh prints them over the translation 52acdc519c58271b… (all of the seat's roots in one cut). By AI agents, Wed Nov 11 2026. No macro, syntax, notation, axiom, sorry.
-/
import Derived.Test.YtpififklhcfcnaaDoorChecked
import GoSem.Claim
import GoSem.ClaimJoined
import GoSem.ClaimMapViews
import Derived.JoinedTies
import Derived.KernelRfl
namespace Go.Proofs.YtpififklhcfcnaaDoor
/- THE CELL 'sum', in the pinned program and in every row, IS THE sha256 OF THE DUMP (.gsa) THAT YtpififklhcfcnaaDoorProg.lean LOADS. Nothing in Lean hashes anything: it is a label: what it is worth is what the hold of that sum in a sandbox is worth. -/
noncomputable def Tryd.pinned : Pinned := { name := "ytpififklhcfcnaadoor", sum := "52acdc519c58271bddceaf129029fe82a49a22bcfab61af0c26ccadfbd8f9a6b", checked := Tryd.checked }
namespace Rows
def none {H : Type} : Left H := { results := [], args := [] }

/- WHAT THE LISTED PACKAGE-LEVEL VARIABLES READ AS WHEN THE CALL BEGINS. Each datum BY PROGRAM (the guide's laid-datum.mjs) off the statement by which the dump's own 'gosem.cut.vars' lays the variable. In a bare row this is a premise. The card (YtpififklhcfcnaaDoorCards.lean) ties it to the program's text. -/
def laid_math_bits_deBruijn32tab {H : Type} : DataW H := .agg [.lit (.int .u8 0), .lit (.int .u8 1), .lit (.int .u8 28), .lit (.int .u8 2), .lit (.int .u8 29), .lit (.int .u8 14), .lit (.int .u8 24), .lit (.int .u8 3), .lit (.int .u8 30), .lit (.int .u8 22), .lit (.int .u8 20), .lit (.int .u8 15), .lit (.int .u8 25), .lit (.int .u8 17), .lit (.int .u8 4), .lit (.int .u8 8), .lit (.int .u8 31), .lit (.int .u8 27), .lit (.int .u8 13), .lit (.int .u8 23), .lit (.int .u8 21), .lit (.int .u8 19), .lit (.int .u8 16), .lit (.int .u8 7), .lit (.int .u8 26), .lit (.int .u8 12), .lit (.int .u8 18), .lit (.int .u8 6), .lit (.int .u8 11), .lit (.int .u8 5), .lit (.int .u8 10), .lit (.int .u8 9)]
def laid_math_bits_deBruijn64tab {H : Type} : DataW H := .agg [.lit (.int .u8 0), .lit (.int .u8 1), .lit (.int .u8 56), .lit (.int .u8 2), .lit (.int .u8 57), .lit (.int .u8 49), .lit (.int .u8 28), .lit (.int .u8 3), .lit (.int .u8 61), .lit (.int .u8 58), .lit (.int .u8 42), .lit (.int .u8 50), .lit (.int .u8 38), .lit (.int .u8 29), .lit (.int .u8 17), .lit (.int .u8 4), .lit (.int .u8 62), .lit (.int .u8 47), .lit (.int .u8 59), .lit (.int .u8 36), .lit (.int .u8 45), .lit (.int .u8 43), .lit (.int .u8 51), .lit (.int .u8 22), .lit (.int .u8 53), .lit (.int .u8 39), .lit (.int .u8 33), .lit (.int .u8 30), .lit (.int .u8 24), .lit (.int .u8 18), .lit (.int .u8 12), .lit (.int .u8 5), .lit (.int .u8 63), .lit (.int .u8 55), .lit (.int .u8 48), .lit (.int .u8 27), .lit (.int .u8 60), .lit (.int .u8 41), .lit (.int .u8 37), .lit (.int .u8 16), .lit (.int .u8 46), .lit (.int .u8 35), .lit (.int .u8 44), .lit (.int .u8 21), .lit (.int .u8 52), .lit (.int .u8 32), .lit (.int .u8 23), .lit (.int .u8 11), .lit (.int .u8 54), .lit (.int .u8 26), .lit (.int .u8 40), .lit (.int .u8 15), .lit (.int .u8 34), .lit (.int .u8 20), .lit (.int .u8 31), .lit (.int .u8 10), .lit (.int .u8 25), .lit (.int .u8 14), .lit (.int .u8 19), .lit (.int .u8 9), .lit (.int .u8 13), .lit (.int .u8 8), .lit (.int .u8 7), .lit (.int .u8 6)]
def laid_internal_strconv_uint64pow10 {H : Type} : DataW H := .agg [.lit (.int .u64 1), .lit (.int .u64 10), .lit (.int .u64 100), .lit (.int .u64 1000), .lit (.int .u64 10000), .lit (.int .u64 100000), .lit (.int .u64 1000000), .lit (.int .u64 10000000), .lit (.int .u64 100000000), .lit (.int .u64 1000000000), .lit (.int .u64 10000000000), .lit (.int .u64 100000000000), .lit (.int .u64 1000000000000), .lit (.int .u64 10000000000000), .lit (.int .u64 100000000000000), .lit (.int .u64 1000000000000000), .lit (.int .u64 10000000000000000), .lit (.int .u64 100000000000000000), .lit (.int .u64 1000000000000000000), .lit (.int .u64 10000000000000000000)]
def laid_busbar_tree_signs {H : Type} : DataW H := .agg [.agg [.lit (.int .u8 0), .lit (.int .u8 0)], .agg [.lit (.int .u8 91), .lit (.int .u8 93)], .agg [.lit (.int .u8 123), .lit (.int .u8 125)]]

/-- 'busbarlaw14.TreeEvalMatchesReference': WHATEVER THE INPUT: true; the input reads as it did. -/
def treeEvalMatchesReferenceSpec : ChangeSpec := { name := "treeEvalMatchesReference", fn := fun _ => fun
  | [d1, d2] => { results := [.lit (.bool true)], args := [d1, d2] }
  | _ => none }
def treeEvalMatchesReferenceRow : OpenClaim := { program := "ytpififklhcfcnaadoor", sum := "52acdc519c58271bddceaf129029fe82a49a22bcfab61af0c26ccadfbd8f9a6b", func := "busbar/busbarlaw14.TreeEvalMatchesReference", spec := "treeEvalMatchesReference", inPlace := ["internal/abi.NoEscape", "internal/bytealg.MakeNoZero"], unfollowed := true, recurses := true, named := ["busbar/tree.signs", "internal/strconv.uint64pow10", "math/bits.deBruijn32tab", "math/bits.deBruijn64tab"], loops := true, apart := false, laid := [("math/bits.deBruijn32tab", laid_math_bits_deBruijn32tab), ("math/bits.deBruijn64tab", laid_math_bits_deBruijn64tab), ("internal/strconv.uint64pow10", laid_internal_strconv_uint64pow10), ("busbar/tree.signs", laid_busbar_tree_signs)] }
def TreeEvalMatchesReferenceSaid : Prop := treeEvalMatchesReferenceRow.holds Tryd.pinned (OpenSpec.ofChange treeEvalMatchesReferenceSpec)

/-- ITS FALSE NEIGHBOUR: 'it returns false'. Refute it at one input. -/
def treeEvalMatchesReferenceWrong : ChangeSpec := { name := "treeEvalMatchesReference", fn := fun _ => fun
  | [d1, d2] => { results := [.lit (.bool false)], args := [d1, d2] }
  | _ => none }
def TreeEvalMatchesReferenceWrongFalsely : Prop := treeEvalMatchesReferenceRow.holds Tryd.pinned (OpenSpec.ofChange treeEvalMatchesReferenceWrong)

/-- 'busbarlaw14.TreeEvalIsMonotone': WHATEVER THE INPUT: true; the input reads as it did. -/
def treeEvalIsMonotoneSpec : ChangeSpec := { name := "treeEvalIsMonotone", fn := fun _ => fun
  | [d1, d2, d3] => { results := [.lit (.bool true)], args := [d1, d2, d3] }
  | _ => none }
def treeEvalIsMonotoneRow : OpenClaim := { program := "ytpififklhcfcnaadoor", sum := "52acdc519c58271bddceaf129029fe82a49a22bcfab61af0c26ccadfbd8f9a6b", func := "busbar/busbarlaw14.TreeEvalIsMonotone", spec := "treeEvalIsMonotone", inPlace := ["internal/abi.NoEscape", "internal/bytealg.MakeNoZero"], unfollowed := true, recurses := true, named := ["busbar/tree.signs", "internal/strconv.uint64pow10", "math/bits.deBruijn32tab", "math/bits.deBruijn64tab"], loops := true, apart := false, laid := [("math/bits.deBruijn32tab", laid_math_bits_deBruijn32tab), ("math/bits.deBruijn64tab", laid_math_bits_deBruijn64tab), ("internal/strconv.uint64pow10", laid_internal_strconv_uint64pow10), ("busbar/tree.signs", laid_busbar_tree_signs)] }
def TreeEvalIsMonotoneSaid : Prop := treeEvalIsMonotoneRow.holds Tryd.pinned (OpenSpec.ofChange treeEvalIsMonotoneSpec)

/-- ITS FALSE NEIGHBOUR: 'it returns false'. Refute it at one input. -/
def treeEvalIsMonotoneWrong : ChangeSpec := { name := "treeEvalIsMonotone", fn := fun _ => fun
  | [d1, d2, d3] => { results := [.lit (.bool false)], args := [d1, d2, d3] }
  | _ => none }
def TreeEvalIsMonotoneWrongFalsely : Prop := treeEvalIsMonotoneRow.holds Tryd.pinned (OpenSpec.ofChange treeEvalIsMonotoneWrong)

/-- 'busbarlaw14.TreeComposition': WHATEVER THE INPUT: true; the input reads as it did. -/
def treeCompositionSpec : ChangeSpec := { name := "treeComposition", fn := fun _ => fun
  | [d1, d2, d3] => { results := [.lit (.bool true)], args := [d1, d2, d3] }
  | _ => none }
def treeCompositionRow : OpenClaim := { program := "ytpififklhcfcnaadoor", sum := "52acdc519c58271bddceaf129029fe82a49a22bcfab61af0c26ccadfbd8f9a6b", func := "busbar/busbarlaw14.TreeComposition", spec := "treeComposition", inPlace := ["internal/abi.NoEscape", "internal/bytealg.MakeNoZero"], unfollowed := true, recurses := true, named := ["busbar/tree.signs", "internal/strconv.uint64pow10", "math/bits.deBruijn32tab", "math/bits.deBruijn64tab"], loops := true, apart := false, laid := [("math/bits.deBruijn32tab", laid_math_bits_deBruijn32tab), ("math/bits.deBruijn64tab", laid_math_bits_deBruijn64tab), ("internal/strconv.uint64pow10", laid_internal_strconv_uint64pow10), ("busbar/tree.signs", laid_busbar_tree_signs)] }
def TreeCompositionSaid : Prop := treeCompositionRow.holds Tryd.pinned (OpenSpec.ofChange treeCompositionSpec)

/-- ITS FALSE NEIGHBOUR: 'it returns false'. Refute it at one input. -/
def treeCompositionWrong : ChangeSpec := { name := "treeComposition", fn := fun _ => fun
  | [d1, d2, d3] => { results := [.lit (.bool false)], args := [d1, d2, d3] }
  | _ => none }
def TreeCompositionWrongFalsely : Prop := treeCompositionRow.holds Tryd.pinned (OpenSpec.ofChange treeCompositionWrong)

/-- 'busbarlaw14.TreeDepthBounds': WHATEVER THE INPUT: true; the input reads as it did. -/
def treeDepthBoundsSpec : ChangeSpec := { name := "treeDepthBounds", fn := fun _ => fun
  | [d1, d2] => { results := [.lit (.bool true)], args := [d1, d2] }
  | _ => none }
def treeDepthBoundsRow : OpenClaim := { program := "ytpififklhcfcnaadoor", sum := "52acdc519c58271bddceaf129029fe82a49a22bcfab61af0c26ccadfbd8f9a6b", func := "busbar/busbarlaw14.TreeDepthBounds", spec := "treeDepthBounds", inPlace := ["internal/abi.NoEscape", "internal/bytealg.MakeNoZero"], unfollowed := true, recurses := true, named := ["busbar/tree.signs", "internal/strconv.uint64pow10", "math/bits.deBruijn32tab", "math/bits.deBruijn64tab"], loops := true, apart := false, laid := [("math/bits.deBruijn32tab", laid_math_bits_deBruijn32tab), ("math/bits.deBruijn64tab", laid_math_bits_deBruijn64tab), ("internal/strconv.uint64pow10", laid_internal_strconv_uint64pow10), ("busbar/tree.signs", laid_busbar_tree_signs)] }
def TreeDepthBoundsSaid : Prop := treeDepthBoundsRow.holds Tryd.pinned (OpenSpec.ofChange treeDepthBoundsSpec)

/-- ITS FALSE NEIGHBOUR: 'it returns false'. Refute it at one input. -/
def treeDepthBoundsWrong : ChangeSpec := { name := "treeDepthBounds", fn := fun _ => fun
  | [d1, d2] => { results := [.lit (.bool false)], args := [d1, d2] }
  | _ => none }
def TreeDepthBoundsWrongFalsely : Prop := treeDepthBoundsRow.holds Tryd.pinned (OpenSpec.ofChange treeDepthBoundsWrong)

/-- 'busbarlaw14.TreeCheckMatchesReference': WHATEVER THE INPUT: true; the input reads as it did. -/
def treeCheckMatchesReferenceSpec : ChangeSpec := { name := "treeCheckMatchesReference", fn := fun _ => fun
  | [d1, d2, d3] => { results := [.lit (.bool true)], args := [d1, d2, d3] }
  | _ => none }
def treeCheckMatchesReferenceRow : OpenClaim := { program := "ytpififklhcfcnaadoor", sum := "52acdc519c58271bddceaf129029fe82a49a22bcfab61af0c26ccadfbd8f9a6b", func := "busbar/busbarlaw14.TreeCheckMatchesReference", spec := "treeCheckMatchesReference", inPlace := ["internal/abi.NoEscape", "internal/bytealg.MakeNoZero"], unfollowed := true, recurses := true, named := ["busbar/tree.signs", "internal/strconv.uint64pow10", "math/bits.deBruijn32tab", "math/bits.deBruijn64tab"], loops := true, apart := false, laid := [("math/bits.deBruijn32tab", laid_math_bits_deBruijn32tab), ("math/bits.deBruijn64tab", laid_math_bits_deBruijn64tab), ("internal/strconv.uint64pow10", laid_internal_strconv_uint64pow10), ("busbar/tree.signs", laid_busbar_tree_signs)] }
def TreeCheckMatchesReferenceSaid : Prop := treeCheckMatchesReferenceRow.holds Tryd.pinned (OpenSpec.ofChange treeCheckMatchesReferenceSpec)

/-- ITS FALSE NEIGHBOUR: 'it returns false'. Refute it at one input. -/
def treeCheckMatchesReferenceWrong : ChangeSpec := { name := "treeCheckMatchesReference", fn := fun _ => fun
  | [d1, d2, d3] => { results := [.lit (.bool false)], args := [d1, d2, d3] }
  | _ => none }
def TreeCheckMatchesReferenceWrongFalsely : Prop := treeCheckMatchesReferenceRow.holds Tryd.pinned (OpenSpec.ofChange treeCheckMatchesReferenceWrong)

/- THE SECOND FORM. 'bulk': how many values and letters a reading holds, each counted each time it is reached (what is shared counts as often as it is met; a slice's spare places count too). A statement '..UptoSaid' is the law's where the arguments, and the package variables that the reading takes, are together of bulk at most 1048576: NARROWER than '..Said'. Prove '..Said' where nothing that the law and all that it calls make is longer than what came in: it says more and counts as full. Else prove '..UptoSaid'. A law counts once. -/
mutual
def uptoBulk {H : Type} : DataW H → Nat
  | .lit (.string bytes) => bytes.length + 1
  | .lit _ => 1
  | .nil => 1
  | .ptr d => uptoBulk d + 1
  | .slice elems spare => uptoBulkAll elems + uptoBulkAll spare + 1
  | .agg parts => uptoBulkAll parts + 1
  | .iface _ d => uptoBulk d + 1
  | .map entries => uptoBulkEntries entries + 1
  | .held _ => 1
def uptoBulkAll {H : Type} : List (DataW H) → Nat
  | [] => 0
  | d :: r => uptoBulk d + uptoBulkAll r
def uptoBulkEntries {H : Type} : List (Lit × DataW H) → Nat
  | [] => 0
  | x :: r => uptoBulkEntry x + uptoBulkEntries r
def uptoBulkEntry {H : Type} : Lit × DataW H → Nat
  | (.string bytes, d) => bytes.length + uptoBulk d + 1
  | (_, d) => uptoBulk d + 1
 end
def uptoSmall : (H : Type) → List (DataW H) → Bool := fun _ ds => decide (uptoBulkAll ds ≤ 1048576)
def OpenSpec.upto (s : _root_.Go.ChangeSpec) : _root_.Go.OpenSpec := { _root_.Go.OpenSpec.ofChange s with cond := some uptoSmall }

/-- 'busbarlaw14.TreeEvalMatchesReference', WHERE WHAT IT READS IS OF BULK AT MOST 1048576: true; the input reads as it did. -/
def treeEvalMatchesReferenceUptoRow : OpenClaim := { program := "ytpififklhcfcnaadoor", sum := "52acdc519c58271bddceaf129029fe82a49a22bcfab61af0c26ccadfbd8f9a6b", func := "busbar/busbarlaw14.TreeEvalMatchesReference", spec := "treeEvalMatchesReference", inPlace := ["internal/abi.NoEscape", "internal/bytealg.MakeNoZero"], unfollowed := true, recurses := true, named := ["busbar/tree.signs", "internal/strconv.uint64pow10", "math/bits.deBruijn32tab", "math/bits.deBruijn64tab"], loops := true, apart := false, laid := [("math/bits.deBruijn32tab", laid_math_bits_deBruijn32tab), ("math/bits.deBruijn64tab", laid_math_bits_deBruijn64tab), ("internal/strconv.uint64pow10", laid_internal_strconv_uint64pow10), ("busbar/tree.signs", laid_busbar_tree_signs)], narrowed := true }
def TreeEvalMatchesReferenceUptoSaid : Prop := treeEvalMatchesReferenceUptoRow.holds Tryd.pinned (OpenSpec.upto treeEvalMatchesReferenceSpec)

/-- 'busbarlaw14.TreeEvalIsMonotone', WHERE WHAT IT READS IS OF BULK AT MOST 1048576: true; the input reads as it did. -/
def treeEvalIsMonotoneUptoRow : OpenClaim := { program := "ytpififklhcfcnaadoor", sum := "52acdc519c58271bddceaf129029fe82a49a22bcfab61af0c26ccadfbd8f9a6b", func := "busbar/busbarlaw14.TreeEvalIsMonotone", spec := "treeEvalIsMonotone", inPlace := ["internal/abi.NoEscape", "internal/bytealg.MakeNoZero"], unfollowed := true, recurses := true, named := ["busbar/tree.signs", "internal/strconv.uint64pow10", "math/bits.deBruijn32tab", "math/bits.deBruijn64tab"], loops := true, apart := false, laid := [("math/bits.deBruijn32tab", laid_math_bits_deBruijn32tab), ("math/bits.deBruijn64tab", laid_math_bits_deBruijn64tab), ("internal/strconv.uint64pow10", laid_internal_strconv_uint64pow10), ("busbar/tree.signs", laid_busbar_tree_signs)], narrowed := true }
def TreeEvalIsMonotoneUptoSaid : Prop := treeEvalIsMonotoneUptoRow.holds Tryd.pinned (OpenSpec.upto treeEvalIsMonotoneSpec)

/-- 'busbarlaw14.TreeComposition', WHERE WHAT IT READS IS OF BULK AT MOST 1048576: true; the input reads as it did. -/
def treeCompositionUptoRow : OpenClaim := { program := "ytpififklhcfcnaadoor", sum := "52acdc519c58271bddceaf129029fe82a49a22bcfab61af0c26ccadfbd8f9a6b", func := "busbar/busbarlaw14.TreeComposition", spec := "treeComposition", inPlace := ["internal/abi.NoEscape", "internal/bytealg.MakeNoZero"], unfollowed := true, recurses := true, named := ["busbar/tree.signs", "internal/strconv.uint64pow10", "math/bits.deBruijn32tab", "math/bits.deBruijn64tab"], loops := true, apart := false, laid := [("math/bits.deBruijn32tab", laid_math_bits_deBruijn32tab), ("math/bits.deBruijn64tab", laid_math_bits_deBruijn64tab), ("internal/strconv.uint64pow10", laid_internal_strconv_uint64pow10), ("busbar/tree.signs", laid_busbar_tree_signs)], narrowed := true }
def TreeCompositionUptoSaid : Prop := treeCompositionUptoRow.holds Tryd.pinned (OpenSpec.upto treeCompositionSpec)

/-- 'busbarlaw14.TreeDepthBounds', WHERE WHAT IT READS IS OF BULK AT MOST 1048576: true; the input reads as it did. -/
def treeDepthBoundsUptoRow : OpenClaim := { program := "ytpififklhcfcnaadoor", sum := "52acdc519c58271bddceaf129029fe82a49a22bcfab61af0c26ccadfbd8f9a6b", func := "busbar/busbarlaw14.TreeDepthBounds", spec := "treeDepthBounds", inPlace := ["internal/abi.NoEscape", "internal/bytealg.MakeNoZero"], unfollowed := true, recurses := true, named := ["busbar/tree.signs", "internal/strconv.uint64pow10", "math/bits.deBruijn32tab", "math/bits.deBruijn64tab"], loops := true, apart := false, laid := [("math/bits.deBruijn32tab", laid_math_bits_deBruijn32tab), ("math/bits.deBruijn64tab", laid_math_bits_deBruijn64tab), ("internal/strconv.uint64pow10", laid_internal_strconv_uint64pow10), ("busbar/tree.signs", laid_busbar_tree_signs)], narrowed := true }
def TreeDepthBoundsUptoSaid : Prop := treeDepthBoundsUptoRow.holds Tryd.pinned (OpenSpec.upto treeDepthBoundsSpec)

/-- 'busbarlaw14.TreeCheckMatchesReference', WHERE WHAT IT READS IS OF BULK AT MOST 1048576: true; the input reads as it did. -/
def treeCheckMatchesReferenceUptoRow : OpenClaim := { program := "ytpififklhcfcnaadoor", sum := "52acdc519c58271bddceaf129029fe82a49a22bcfab61af0c26ccadfbd8f9a6b", func := "busbar/busbarlaw14.TreeCheckMatchesReference", spec := "treeCheckMatchesReference", inPlace := ["internal/abi.NoEscape", "internal/bytealg.MakeNoZero"], unfollowed := true, recurses := true, named := ["busbar/tree.signs", "internal/strconv.uint64pow10", "math/bits.deBruijn32tab", "math/bits.deBruijn64tab"], loops := true, apart := false, laid := [("math/bits.deBruijn32tab", laid_math_bits_deBruijn32tab), ("math/bits.deBruijn64tab", laid_math_bits_deBruijn64tab), ("internal/strconv.uint64pow10", laid_internal_strconv_uint64pow10), ("busbar/tree.signs", laid_busbar_tree_signs)], narrowed := true }
def TreeCheckMatchesReferenceUptoSaid : Prop := treeCheckMatchesReferenceUptoRow.holds Tryd.pinned (OpenSpec.upto treeCheckMatchesReferenceSpec)

end Rows
end Go.Proofs.YtpififklhcfcnaaDoor
