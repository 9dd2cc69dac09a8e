/-
  No cell of these rows narrows 'for every input' (looked for: loops, veiled, ifaces, maps, wideKeys, modest, calm, conditions, laid).
  DERIVED. THE GIVEN ROWS OF THIS SEAT. 14 by the template 'for every input the law returns true; each argument reads behind the call as it read before'; 0 by the template 'total and deterministic' (their statements: YtcgihkapcfpjcaaTotals.lean).
  GIVEN WITH THE SEED: the statements are not yours to turn. If you find one false, say at which input.
  Laid BY PROGRAM, IN A SANDBOX (cutbox-rows.mjs): the forced cells as the released guide's own fill.sh prints them over the translation 2813c5f25b5ec8fa… (all of the seat's roots in one cut). By AI agents, Wed Nov 11 2026. No macro, syntax, notation, axiom, sorry.
-/
import Derived.Test.YtcgihkapcfpjcaaChecked
import GoSem.Claim
import GoSem.ClaimJoined
import GoSem.ClaimMapViews
import Derived.JoinedTies
import Derived.KernelRfl
namespace Go.Proofs.Ytcgihkapcfpjcaa
/- THE CELL 'sum', in the pinned program and in every row, IS THE sha256 OF THE DUMP (.gsa) THAT YtcgihkapcfpjcaaProg.lean LOADS. Nothing in Lean hashes anything: it is a label: what it is worth is what the hold of that sum in a sandbox is worth. -/
noncomputable def Try.pinned : Pinned := { name := "ytcgihkapcfpjcaa", sum := "2813c5f25b5ec8fa3b7e3febf7bba563590e813b806ea46e57389a484bf471d4", checked := Try.checked }
namespace Rows
def none {H : Type} : Left H := { results := [], args := [] }

/-- 'laws.FnExactKnownCount': WHATEVER THE INPUT: true; the input reads as it did. -/
def fnExactKnownCountSpec : ChangeSpec := { name := "fnExactKnownCount", fn := fun _ => fun
  | [d] => { results := [.lit (.bool true)], args := [d] }
  | _ => none }
def fnExactKnownCountRow : OpenClaim := { program := "ytcgihkapcfpjcaa", sum := "2813c5f25b5ec8fa3b7e3febf7bba563590e813b806ea46e57389a484bf471d4", func := "loop.example/rotorciphers/laws.FnExactKnownCount", spec := "fnExactKnownCount", inPlace := ["internal/bytealg.CountString", "internal/bytealg.IndexByteString", "internal/bytealg.IndexString"], named := ["internal/bytealg.MaxLen"], apart := false }
def FnExactKnownCountSaid : Prop := fnExactKnownCountRow.holds Try.pinned (OpenSpec.ofChange fnExactKnownCountSpec)

/-- ITS FALSE NEIGHBOUR: 'it returns false'. Refute it at one input. -/
def fnExactKnownCountWrong : ChangeSpec := { name := "fnExactKnownCount", fn := fun _ => fun
  | [d] => { results := [.lit (.bool false)], args := [d] }
  | _ => none }
def FnExactKnownCountWrongFalsely : Prop := fnExactKnownCountRow.holds Try.pinned (OpenSpec.ofChange fnExactKnownCountWrong)

/-- 'laws.FnReadWhole': WHATEVER THE INPUT: true; the input reads as it did. -/
def fnReadWholeSpec : ChangeSpec := { name := "fnReadWhole", fn := fun _ => fun
  | [d1, d2] => { results := [.lit (.bool true)], args := [d1, d2] }
  | _ => none }
def fnReadWholeRow : OpenClaim := { program := "ytcgihkapcfpjcaa", sum := "2813c5f25b5ec8fa3b7e3febf7bba563590e813b806ea46e57389a484bf471d4", func := "loop.example/rotorciphers/laws.FnReadWhole", spec := "fnReadWhole", apart := false }
def FnReadWholeSaid : Prop := fnReadWholeRow.holds Try.pinned (OpenSpec.ofChange fnReadWholeSpec)

/-- ITS FALSE NEIGHBOUR: 'it returns false'. Refute it at one input. -/
def fnReadWholeWrong : ChangeSpec := { name := "fnReadWhole", fn := fun _ => fun
  | [d1, d2] => { results := [.lit (.bool false)], args := [d1, d2] }
  | _ => none }
def FnReadWholeWrongFalsely : Prop := fnReadWholeRow.holds Try.pinned (OpenSpec.ofChange fnReadWholeWrong)

/-- 'laws.FnReadMerged': WHATEVER THE INPUT: true; the input reads as it did. -/
def fnReadMergedSpec : ChangeSpec := { name := "fnReadMerged", fn := fun _ => fun
  | [d1, d2] => { results := [.lit (.bool true)], args := [d1, d2] }
  | _ => none }
def fnReadMergedRow : OpenClaim := { program := "ytcgihkapcfpjcaa", sum := "2813c5f25b5ec8fa3b7e3febf7bba563590e813b806ea46e57389a484bf471d4", func := "loop.example/rotorciphers/laws.FnReadMerged", spec := "fnReadMerged", apart := false }
def FnReadMergedSaid : Prop := fnReadMergedRow.holds Try.pinned (OpenSpec.ofChange fnReadMergedSpec)

/-- ITS FALSE NEIGHBOUR: 'it returns false'. Refute it at one input. -/
def fnReadMergedWrong : ChangeSpec := { name := "fnReadMerged", fn := fun _ => fun
  | [d1, d2] => { results := [.lit (.bool false)], args := [d1, d2] }
  | _ => none }
def FnReadMergedWrongFalsely : Prop := fnReadMergedRow.holds Try.pinned (OpenSpec.ofChange fnReadMergedWrong)

/-- 'laws.FnReadKey': WHATEVER THE INPUT: true; the input reads as it did. -/
def fnReadKeySpec : ChangeSpec := { name := "fnReadKey", fn := fun _ => fun
  | [d] => { results := [.lit (.bool true)], args := [d] }
  | _ => none }
def fnReadKeyRow : OpenClaim := { program := "ytcgihkapcfpjcaa", sum := "2813c5f25b5ec8fa3b7e3febf7bba563590e813b806ea46e57389a484bf471d4", func := "loop.example/rotorciphers/laws.FnReadKey", spec := "fnReadKey", apart := false }
def FnReadKeySaid : Prop := fnReadKeyRow.holds Try.pinned (OpenSpec.ofChange fnReadKeySpec)

/-- ITS FALSE NEIGHBOUR: 'it returns false'. Refute it at one input. -/
def fnReadKeyWrong : ChangeSpec := { name := "fnReadKey", fn := fun _ => fun
  | [d] => { results := [.lit (.bool false)], args := [d] }
  | _ => none }
def FnReadKeyWrongFalsely : Prop := fnReadKeyRow.holds Try.pinned (OpenSpec.ofChange fnReadKeyWrong)

/-- 'laws.FnDepthBack': WHATEVER THE INPUT: true; the input reads as it did. -/
def fnDepthBackSpec : ChangeSpec := { name := "fnDepthBack", fn := fun _ => fun
  | [d] => { results := [.lit (.bool true)], args := [d] }
  | _ => none }
def fnDepthBackRow : OpenClaim := { program := "ytcgihkapcfpjcaa", sum := "2813c5f25b5ec8fa3b7e3febf7bba563590e813b806ea46e57389a484bf471d4", func := "loop.example/rotorciphers/laws.FnDepthBack", spec := "fnDepthBack", apart := false }
def FnDepthBackSaid : Prop := fnDepthBackRow.holds Try.pinned (OpenSpec.ofChange fnDepthBackSpec)

/-- ITS FALSE NEIGHBOUR: 'it returns false'. Refute it at one input. -/
def fnDepthBackWrong : ChangeSpec := { name := "fnDepthBack", fn := fun _ => fun
  | [d] => { results := [.lit (.bool false)], args := [d] }
  | _ => none }
def FnDepthBackWrongFalsely : Prop := fnDepthBackRow.holds Try.pinned (OpenSpec.ofChange fnDepthBackWrong)

/-- 'laws.FnExactPlaceWord': WHATEVER THE INPUT: true; the input reads as it did. -/
def fnExactPlaceWordSpec : ChangeSpec := { name := "fnExactPlaceWord", fn := fun _ => fun
  | [d1, d2, d3] => { results := [.lit (.bool true)], args := [d1, d2, d3] }
  | _ => none }
def fnExactPlaceWordRow : OpenClaim := { program := "ytcgihkapcfpjcaa", sum := "2813c5f25b5ec8fa3b7e3febf7bba563590e813b806ea46e57389a484bf471d4", func := "loop.example/rotorciphers/laws.FnExactPlaceWord", spec := "fnExactPlaceWord", inPlace := ["internal/abi.NoEscape", "internal/bytealg.MakeNoZero"], apart := false }
def FnExactPlaceWordSaid : Prop := fnExactPlaceWordRow.holds Try.pinned (OpenSpec.ofChange fnExactPlaceWordSpec)

/-- ITS FALSE NEIGHBOUR: 'it returns false'. Refute it at one input. -/
def fnExactPlaceWordWrong : ChangeSpec := { name := "fnExactPlaceWord", fn := fun _ => fun
  | [d1, d2, d3] => { results := [.lit (.bool false)], args := [d1, d2, d3] }
  | _ => none }
def FnExactPlaceWordWrongFalsely : Prop := fnExactPlaceWordRow.holds Try.pinned (OpenSpec.ofChange fnExactPlaceWordWrong)

/-- 'laws.FnDepthTrue': WHATEVER THE INPUT: true; the input reads as it did. -/
def fnDepthTrueSpec : ChangeSpec := { name := "fnDepthTrue", fn := fun _ => fun
  | [d1, d2] => { results := [.lit (.bool true)], args := [d1, d2] }
  | _ => none }
def fnDepthTrueRow : OpenClaim := { program := "ytcgihkapcfpjcaa", sum := "2813c5f25b5ec8fa3b7e3febf7bba563590e813b806ea46e57389a484bf471d4", func := "loop.example/rotorciphers/laws.FnDepthTrue", spec := "fnDepthTrue", apart := false }
def FnDepthTrueSaid : Prop := fnDepthTrueRow.holds Try.pinned (OpenSpec.ofChange fnDepthTrueSpec)

/-- ITS FALSE NEIGHBOUR: 'it returns false'. Refute it at one input. -/
def fnDepthTrueWrong : ChangeSpec := { name := "fnDepthTrue", fn := fun _ => fun
  | [d1, d2] => { results := [.lit (.bool false)], args := [d1, d2] }
  | _ => none }
def FnDepthTrueWrongFalsely : Prop := fnDepthTrueRow.holds Try.pinned (OpenSpec.ofChange fnDepthTrueWrong)

/-- 'laws.FnPartialKnown': WHATEVER THE INPUT: true; the input reads as it did. -/
def fnPartialKnownSpec : ChangeSpec := { name := "fnPartialKnown", fn := fun _ => fun
  | [d] => { results := [.lit (.bool true)], args := [d] }
  | _ => none }
def fnPartialKnownRow : OpenClaim := { program := "ytcgihkapcfpjcaa", sum := "2813c5f25b5ec8fa3b7e3febf7bba563590e813b806ea46e57389a484bf471d4", func := "loop.example/rotorciphers/laws.FnPartialKnown", spec := "fnPartialKnown", inPlace := ["internal/bytealg.CountString", "internal/bytealg.IndexByteString", "internal/bytealg.IndexString"], named := ["internal/bytealg.MaxLen"], apart := false }
def FnPartialKnownSaid : Prop := fnPartialKnownRow.holds Try.pinned (OpenSpec.ofChange fnPartialKnownSpec)

/-- ITS FALSE NEIGHBOUR: 'it returns false'. Refute it at one input. -/
def fnPartialKnownWrong : ChangeSpec := { name := "fnPartialKnown", fn := fun _ => fun
  | [d] => { results := [.lit (.bool false)], args := [d] }
  | _ => none }
def FnPartialKnownWrongFalsely : Prop := fnPartialKnownRow.holds Try.pinned (OpenSpec.ofChange fnPartialKnownWrong)

/-- 'laws.FnMergeKnown': WHATEVER THE INPUT: true; the input reads as it did. -/
def fnMergeKnownSpec : ChangeSpec := { name := "fnMergeKnown", fn := fun _ => fun
  | [d] => { results := [.lit (.bool true)], args := [d] }
  | _ => none }
def fnMergeKnownRow : OpenClaim := { program := "ytcgihkapcfpjcaa", sum := "2813c5f25b5ec8fa3b7e3febf7bba563590e813b806ea46e57389a484bf471d4", func := "loop.example/rotorciphers/laws.FnMergeKnown", spec := "fnMergeKnown", inPlace := ["internal/bytealg.CountString", "internal/bytealg.IndexByteString", "internal/bytealg.IndexString"], named := ["internal/bytealg.MaxLen"], apart := false }
def FnMergeKnownSaid : Prop := fnMergeKnownRow.holds Try.pinned (OpenSpec.ofChange fnMergeKnownSpec)

/-- ITS FALSE NEIGHBOUR: 'it returns false'. Refute it at one input. -/
def fnMergeKnownWrong : ChangeSpec := { name := "fnMergeKnown", fn := fun _ => fun
  | [d] => { results := [.lit (.bool false)], args := [d] }
  | _ => none }
def FnMergeKnownWrongFalsely : Prop := fnMergeKnownRow.holds Try.pinned (OpenSpec.ofChange fnMergeKnownWrong)

/-- 'laws.FnPartialFits': WHATEVER THE INPUT: true; the input reads as it did. -/
def fnPartialFitsSpec : ChangeSpec := { name := "fnPartialFits", fn := fun _ => fun
  | [d] => { results := [.lit (.bool true)], args := [d] }
  | _ => none }
def fnPartialFitsRow : OpenClaim := { program := "ytcgihkapcfpjcaa", sum := "2813c5f25b5ec8fa3b7e3febf7bba563590e813b806ea46e57389a484bf471d4", func := "loop.example/rotorciphers/laws.FnPartialFits", spec := "fnPartialFits", inPlace := ["internal/bytealg.CountString", "internal/bytealg.IndexByteString", "internal/bytealg.IndexString"], named := ["internal/bytealg.MaxLen"], apart := false }
def FnPartialFitsSaid : Prop := fnPartialFitsRow.holds Try.pinned (OpenSpec.ofChange fnPartialFitsSpec)

/-- ITS FALSE NEIGHBOUR: 'it returns false'. Refute it at one input. -/
def fnPartialFitsWrong : ChangeSpec := { name := "fnPartialFits", fn := fun _ => fun
  | [d] => { results := [.lit (.bool false)], args := [d] }
  | _ => none }
def FnPartialFitsWrongFalsely : Prop := fnPartialFitsRow.holds Try.pinned (OpenSpec.ofChange fnPartialFitsWrong)

/-- 'laws.FnKeyRead': WHATEVER THE INPUT: true; the input reads as it did. -/
def fnKeyReadSpec : ChangeSpec := { name := "fnKeyRead", fn := fun _ => fun
  | [d] => { results := [.lit (.bool true)], args := [d] }
  | _ => none }
def fnKeyReadRow : OpenClaim := { program := "ytcgihkapcfpjcaa", sum := "2813c5f25b5ec8fa3b7e3febf7bba563590e813b806ea46e57389a484bf471d4", func := "loop.example/rotorciphers/laws.FnKeyRead", spec := "fnKeyRead", inPlace := ["internal/bytealg.CountString", "internal/bytealg.IndexByteString", "internal/bytealg.IndexString"], named := ["internal/bytealg.MaxLen"], apart := false }
def FnKeyReadSaid : Prop := fnKeyReadRow.holds Try.pinned (OpenSpec.ofChange fnKeyReadSpec)

/-- ITS FALSE NEIGHBOUR: 'it returns false'. Refute it at one input. -/
def fnKeyReadWrong : ChangeSpec := { name := "fnKeyRead", fn := fun _ => fun
  | [d] => { results := [.lit (.bool false)], args := [d] }
  | _ => none }
def FnKeyReadWrongFalsely : Prop := fnKeyReadRow.holds Try.pinned (OpenSpec.ofChange fnKeyReadWrong)

/-- 'laws.FnDepthDifference': WHATEVER THE INPUT: true; the input reads as it did. -/
def fnDepthDifferenceSpec : ChangeSpec := { name := "fnDepthDifference", fn := fun _ => fun
  | [d] => { results := [.lit (.bool true)], args := [d] }
  | _ => none }
def fnDepthDifferenceRow : OpenClaim := { program := "ytcgihkapcfpjcaa", sum := "2813c5f25b5ec8fa3b7e3febf7bba563590e813b806ea46e57389a484bf471d4", func := "loop.example/rotorciphers/laws.FnDepthDifference", spec := "fnDepthDifference", inPlace := ["internal/bytealg.CountString", "internal/bytealg.IndexByteString", "internal/bytealg.IndexString"], named := ["internal/bytealg.MaxLen"], apart := false }
def FnDepthDifferenceSaid : Prop := fnDepthDifferenceRow.holds Try.pinned (OpenSpec.ofChange fnDepthDifferenceSpec)

/-- ITS FALSE NEIGHBOUR: 'it returns false'. Refute it at one input. -/
def fnDepthDifferenceWrong : ChangeSpec := { name := "fnDepthDifference", fn := fun _ => fun
  | [d] => { results := [.lit (.bool false)], args := [d] }
  | _ => none }
def FnDepthDifferenceWrongFalsely : Prop := fnDepthDifferenceRow.holds Try.pinned (OpenSpec.ofChange fnDepthDifferenceWrong)

/-- 'laws.FnDragCrib': WHATEVER THE INPUT: true; the input reads as it did. -/
def fnDragCribSpec : ChangeSpec := { name := "fnDragCrib", fn := fun _ => fun
  | [d] => { results := [.lit (.bool true)], args := [d] }
  | _ => none }
def fnDragCribRow : OpenClaim := { program := "ytcgihkapcfpjcaa", sum := "2813c5f25b5ec8fa3b7e3febf7bba563590e813b806ea46e57389a484bf471d4", func := "loop.example/rotorciphers/laws.FnDragCrib", spec := "fnDragCrib", inPlace := ["internal/abi.NoEscape", "internal/bytealg.MakeNoZero"], apart := false }
def FnDragCribSaid : Prop := fnDragCribRow.holds Try.pinned (OpenSpec.ofChange fnDragCribSpec)

/-- ITS FALSE NEIGHBOUR: 'it returns false'. Refute it at one input. -/
def fnDragCribWrong : ChangeSpec := { name := "fnDragCrib", fn := fun _ => fun
  | [d] => { results := [.lit (.bool false)], args := [d] }
  | _ => none }
def FnDragCribWrongFalsely : Prop := fnDragCribRow.holds Try.pinned (OpenSpec.ofChange fnDragCribWrong)

/-- 'laws.FnPlaceWord': WHATEVER THE INPUT: true; the input reads as it did. -/
def fnPlaceWordSpec : ChangeSpec := { name := "fnPlaceWord", fn := fun _ => fun
  | [d] => { results := [.lit (.bool true)], args := [d] }
  | _ => none }
def fnPlaceWordRow : OpenClaim := { program := "ytcgihkapcfpjcaa", sum := "2813c5f25b5ec8fa3b7e3febf7bba563590e813b806ea46e57389a484bf471d4", func := "loop.example/rotorciphers/laws.FnPlaceWord", spec := "fnPlaceWord", inPlace := ["internal/abi.NoEscape", "internal/bytealg.MakeNoZero", "internal/bytealg.CountString", "internal/bytealg.IndexByteString", "internal/bytealg.IndexString"], named := ["internal/bytealg.MaxLen"], apart := false }
def FnPlaceWordSaid : Prop := fnPlaceWordRow.holds Try.pinned (OpenSpec.ofChange fnPlaceWordSpec)

/-- ITS FALSE NEIGHBOUR: 'it returns false'. Refute it at one input. -/
def fnPlaceWordWrong : ChangeSpec := { name := "fnPlaceWord", fn := fun _ => fun
  | [d] => { results := [.lit (.bool false)], args := [d] }
  | _ => none }
def FnPlaceWordWrongFalsely : Prop := fnPlaceWordRow.holds Try.pinned (OpenSpec.ofChange fnPlaceWordWrong)

/- THE SECOND FORM. 'bulk': how many values and letters a reading holds, each counted each time it is reached (what is shared counts as often as it is met; a slice's spare places count too). A statement '..UptoSaid' is the law's where the arguments, and the package variables that the reading takes, are together of bulk at most 1048576: NARROWER than '..Said'. Prove '..Said' where nothing that the law and all that it calls make is longer than what came in: it says more and counts as full. Else prove '..UptoSaid'. A law counts once. -/
mutual
def uptoBulk {H : Type} : DataW H → Nat
  | .lit (.string bytes) => bytes.length + 1
  | .lit _ => 1
  | .nil => 1
  | .ptr d => uptoBulk d + 1
  | .slice elems spare => uptoBulkAll elems + uptoBulkAll spare + 1
  | .agg parts => uptoBulkAll parts + 1
  | .iface _ d => uptoBulk d + 1
  | .map entries => uptoBulkEntries entries + 1
  | .held _ => 1
def uptoBulkAll {H : Type} : List (DataW H) → Nat
  | [] => 0
  | d :: r => uptoBulk d + uptoBulkAll r
def uptoBulkEntries {H : Type} : List (Lit × DataW H) → Nat
  | [] => 0
  | x :: r => uptoBulkEntry x + uptoBulkEntries r
def uptoBulkEntry {H : Type} : Lit × DataW H → Nat
  | (.string bytes, d) => bytes.length + uptoBulk d + 1
  | (_, d) => uptoBulk d + 1
 end
def uptoSmall : (H : Type) → List (DataW H) → Bool := fun _ ds => decide (uptoBulkAll ds ≤ 1048576)
def OpenSpec.upto (s : _root_.Go.ChangeSpec) : _root_.Go.OpenSpec := { _root_.Go.OpenSpec.ofChange s with cond := some uptoSmall }

/-- 'laws.FnExactKnownCount', WHERE WHAT IT READS IS OF BULK AT MOST 1048576: true; the input reads as it did. -/
def fnExactKnownCountUptoRow : OpenClaim := { program := "ytcgihkapcfpjcaa", sum := "2813c5f25b5ec8fa3b7e3febf7bba563590e813b806ea46e57389a484bf471d4", func := "loop.example/rotorciphers/laws.FnExactKnownCount", spec := "fnExactKnownCount", inPlace := ["internal/bytealg.CountString", "internal/bytealg.IndexByteString", "internal/bytealg.IndexString"], named := ["internal/bytealg.MaxLen"], apart := false, narrowed := true }
def FnExactKnownCountUptoSaid : Prop := fnExactKnownCountUptoRow.holds Try.pinned (OpenSpec.upto fnExactKnownCountSpec)

/-- 'laws.FnReadWhole', WHERE WHAT IT READS IS OF BULK AT MOST 1048576: true; the input reads as it did. -/
def fnReadWholeUptoRow : OpenClaim := { program := "ytcgihkapcfpjcaa", sum := "2813c5f25b5ec8fa3b7e3febf7bba563590e813b806ea46e57389a484bf471d4", func := "loop.example/rotorciphers/laws.FnReadWhole", spec := "fnReadWhole", apart := false, narrowed := true }
def FnReadWholeUptoSaid : Prop := fnReadWholeUptoRow.holds Try.pinned (OpenSpec.upto fnReadWholeSpec)

/-- 'laws.FnReadMerged', WHERE WHAT IT READS IS OF BULK AT MOST 1048576: true; the input reads as it did. -/
def fnReadMergedUptoRow : OpenClaim := { program := "ytcgihkapcfpjcaa", sum := "2813c5f25b5ec8fa3b7e3febf7bba563590e813b806ea46e57389a484bf471d4", func := "loop.example/rotorciphers/laws.FnReadMerged", spec := "fnReadMerged", apart := false, narrowed := true }
def FnReadMergedUptoSaid : Prop := fnReadMergedUptoRow.holds Try.pinned (OpenSpec.upto fnReadMergedSpec)

/-- 'laws.FnReadKey', WHERE WHAT IT READS IS OF BULK AT MOST 1048576: true; the input reads as it did. -/
def fnReadKeyUptoRow : OpenClaim := { program := "ytcgihkapcfpjcaa", sum := "2813c5f25b5ec8fa3b7e3febf7bba563590e813b806ea46e57389a484bf471d4", func := "loop.example/rotorciphers/laws.FnReadKey", spec := "fnReadKey", apart := false, narrowed := true }
def FnReadKeyUptoSaid : Prop := fnReadKeyUptoRow.holds Try.pinned (OpenSpec.upto fnReadKeySpec)

/-- 'laws.FnDepthBack', WHERE WHAT IT READS IS OF BULK AT MOST 1048576: true; the input reads as it did. -/
def fnDepthBackUptoRow : OpenClaim := { program := "ytcgihkapcfpjcaa", sum := "2813c5f25b5ec8fa3b7e3febf7bba563590e813b806ea46e57389a484bf471d4", func := "loop.example/rotorciphers/laws.FnDepthBack", spec := "fnDepthBack", apart := false, narrowed := true }
def FnDepthBackUptoSaid : Prop := fnDepthBackUptoRow.holds Try.pinned (OpenSpec.upto fnDepthBackSpec)

/-- 'laws.FnExactPlaceWord', WHERE WHAT IT READS IS OF BULK AT MOST 1048576: true; the input reads as it did. -/
def fnExactPlaceWordUptoRow : OpenClaim := { program := "ytcgihkapcfpjcaa", sum := "2813c5f25b5ec8fa3b7e3febf7bba563590e813b806ea46e57389a484bf471d4", func := "loop.example/rotorciphers/laws.FnExactPlaceWord", spec := "fnExactPlaceWord", inPlace := ["internal/abi.NoEscape", "internal/bytealg.MakeNoZero"], apart := false, narrowed := true }
def FnExactPlaceWordUptoSaid : Prop := fnExactPlaceWordUptoRow.holds Try.pinned (OpenSpec.upto fnExactPlaceWordSpec)

/-- 'laws.FnDepthTrue', WHERE WHAT IT READS IS OF BULK AT MOST 1048576: true; the input reads as it did. -/
def fnDepthTrueUptoRow : OpenClaim := { program := "ytcgihkapcfpjcaa", sum := "2813c5f25b5ec8fa3b7e3febf7bba563590e813b806ea46e57389a484bf471d4", func := "loop.example/rotorciphers/laws.FnDepthTrue", spec := "fnDepthTrue", apart := false, narrowed := true }
def FnDepthTrueUptoSaid : Prop := fnDepthTrueUptoRow.holds Try.pinned (OpenSpec.upto fnDepthTrueSpec)

/-- 'laws.FnPartialKnown', WHERE WHAT IT READS IS OF BULK AT MOST 1048576: true; the input reads as it did. -/
def fnPartialKnownUptoRow : OpenClaim := { program := "ytcgihkapcfpjcaa", sum := "2813c5f25b5ec8fa3b7e3febf7bba563590e813b806ea46e57389a484bf471d4", func := "loop.example/rotorciphers/laws.FnPartialKnown", spec := "fnPartialKnown", inPlace := ["internal/bytealg.CountString", "internal/bytealg.IndexByteString", "internal/bytealg.IndexString"], named := ["internal/bytealg.MaxLen"], apart := false, narrowed := true }
def FnPartialKnownUptoSaid : Prop := fnPartialKnownUptoRow.holds Try.pinned (OpenSpec.upto fnPartialKnownSpec)

/-- 'laws.FnMergeKnown', WHERE WHAT IT READS IS OF BULK AT MOST 1048576: true; the input reads as it did. -/
def fnMergeKnownUptoRow : OpenClaim := { program := "ytcgihkapcfpjcaa", sum := "2813c5f25b5ec8fa3b7e3febf7bba563590e813b806ea46e57389a484bf471d4", func := "loop.example/rotorciphers/laws.FnMergeKnown", spec := "fnMergeKnown", inPlace := ["internal/bytealg.CountString", "internal/bytealg.IndexByteString", "internal/bytealg.IndexString"], named := ["internal/bytealg.MaxLen"], apart := false, narrowed := true }
def FnMergeKnownUptoSaid : Prop := fnMergeKnownUptoRow.holds Try.pinned (OpenSpec.upto fnMergeKnownSpec)

/-- 'laws.FnPartialFits', WHERE WHAT IT READS IS OF BULK AT MOST 1048576: true; the input reads as it did. -/
def fnPartialFitsUptoRow : OpenClaim := { program := "ytcgihkapcfpjcaa", sum := "2813c5f25b5ec8fa3b7e3febf7bba563590e813b806ea46e57389a484bf471d4", func := "loop.example/rotorciphers/laws.FnPartialFits", spec := "fnPartialFits", inPlace := ["internal/bytealg.CountString", "internal/bytealg.IndexByteString", "internal/bytealg.IndexString"], named := ["internal/bytealg.MaxLen"], apart := false, narrowed := true }
def FnPartialFitsUptoSaid : Prop := fnPartialFitsUptoRow.holds Try.pinned (OpenSpec.upto fnPartialFitsSpec)

/-- 'laws.FnKeyRead', WHERE WHAT IT READS IS OF BULK AT MOST 1048576: true; the input reads as it did. -/
def fnKeyReadUptoRow : OpenClaim := { program := "ytcgihkapcfpjcaa", sum := "2813c5f25b5ec8fa3b7e3febf7bba563590e813b806ea46e57389a484bf471d4", func := "loop.example/rotorciphers/laws.FnKeyRead", spec := "fnKeyRead", inPlace := ["internal/bytealg.CountString", "internal/bytealg.IndexByteString", "internal/bytealg.IndexString"], named := ["internal/bytealg.MaxLen"], apart := false, narrowed := true }
def FnKeyReadUptoSaid : Prop := fnKeyReadUptoRow.holds Try.pinned (OpenSpec.upto fnKeyReadSpec)

/-- 'laws.FnDepthDifference', WHERE WHAT IT READS IS OF BULK AT MOST 1048576: true; the input reads as it did. -/
def fnDepthDifferenceUptoRow : OpenClaim := { program := "ytcgihkapcfpjcaa", sum := "2813c5f25b5ec8fa3b7e3febf7bba563590e813b806ea46e57389a484bf471d4", func := "loop.example/rotorciphers/laws.FnDepthDifference", spec := "fnDepthDifference", inPlace := ["internal/bytealg.CountString", "internal/bytealg.IndexByteString", "internal/bytealg.IndexString"], named := ["internal/bytealg.MaxLen"], apart := false, narrowed := true }
def FnDepthDifferenceUptoSaid : Prop := fnDepthDifferenceUptoRow.holds Try.pinned (OpenSpec.upto fnDepthDifferenceSpec)

/-- 'laws.FnDragCrib', WHERE WHAT IT READS IS OF BULK AT MOST 1048576: true; the input reads as it did. -/
def fnDragCribUptoRow : OpenClaim := { program := "ytcgihkapcfpjcaa", sum := "2813c5f25b5ec8fa3b7e3febf7bba563590e813b806ea46e57389a484bf471d4", func := "loop.example/rotorciphers/laws.FnDragCrib", spec := "fnDragCrib", inPlace := ["internal/abi.NoEscape", "internal/bytealg.MakeNoZero"], apart := false, narrowed := true }
def FnDragCribUptoSaid : Prop := fnDragCribUptoRow.holds Try.pinned (OpenSpec.upto fnDragCribSpec)

/-- 'laws.FnPlaceWord', WHERE WHAT IT READS IS OF BULK AT MOST 1048576: true; the input reads as it did. -/
def fnPlaceWordUptoRow : OpenClaim := { program := "ytcgihkapcfpjcaa", sum := "2813c5f25b5ec8fa3b7e3febf7bba563590e813b806ea46e57389a484bf471d4", func := "loop.example/rotorciphers/laws.FnPlaceWord", spec := "fnPlaceWord", inPlace := ["internal/abi.NoEscape", "internal/bytealg.MakeNoZero", "internal/bytealg.CountString", "internal/bytealg.IndexByteString", "internal/bytealg.IndexString"], named := ["internal/bytealg.MaxLen"], apart := false, narrowed := true }
def FnPlaceWordUptoSaid : Prop := fnPlaceWordUptoRow.holds Try.pinned (OpenSpec.upto fnPlaceWordSpec)

end Rows
end Go.Proofs.Ytcgihkapcfpjcaa
