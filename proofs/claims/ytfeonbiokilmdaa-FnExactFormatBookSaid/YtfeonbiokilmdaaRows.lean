/-
  No cell of these rows narrows 'for every input' (looked for: loops, veiled, ifaces, maps, wideKeys, modest, calm, conditions, laid).
  DERIVED. THE GIVEN ROWS OF THIS SEAT. 18 by the template 'for every input the law returns true; each argument reads behind the call as it read before'; 0 by the template 'total and deterministic' (their statements: YtfeonbiokilmdaaTotals.lean).
  GIVEN WITH THE SEED: the statements are not yours to turn. If you find one false, say at which input.
  Laid BY PROGRAM, IN A SANDBOX (cutbox-rows.mjs): the forced cells as the released guide's own fill.sh prints them over the translation c93c990ab79161bc… (all of the seat's roots in one cut). By AI agents, Wed Nov 11 2026. No macro, syntax, notation, axiom, sorry.
-/
import Derived.Test.YtfeonbiokilmdaaChecked
import GoSem.Claim
import GoSem.ClaimJoined
import GoSem.ClaimMapViews
import Derived.JoinedTies
import Derived.KernelRfl
namespace Go.Proofs.Ytfeonbiokilmdaa
/- THE CELL 'sum', in the pinned program and in every row, IS THE sha256 OF THE DUMP (.gsa) THAT YtfeonbiokilmdaaProg.lean LOADS. Nothing in Lean hashes anything: it is a label: what it is worth is what the hold of that sum in a sandbox is worth. -/
noncomputable def Try.pinned : Pinned := { name := "ytfeonbiokilmdaa", sum := "c93c990ab79161bc3f75006ec92e78e612a476dfd44df5050a6ad4a3c5a95d8e", checked := Try.checked }
namespace Rows
def none {H : Type} : Left H := { results := [], args := [] }

/-- 'laws.FnBookFewer': WHATEVER THE INPUT: true; the input reads as it did. -/
def fnBookFewerSpec : ChangeSpec := { name := "fnBookFewer", fn := fun _ => fun
  | [d] => { results := [.lit (.bool true)], args := [d] }
  | _ => none }
def fnBookFewerRow : OpenClaim := { program := "ytfeonbiokilmdaa", sum := "c93c990ab79161bc3f75006ec92e78e612a476dfd44df5050a6ad4a3c5a95d8e", func := "loop.example/rotorciphers/laws.FnBookFewer", spec := "fnBookFewer", apart := false }
def FnBookFewerSaid : Prop := fnBookFewerRow.holds Try.pinned (OpenSpec.ofChange fnBookFewerSpec)

/-- ITS FALSE NEIGHBOUR: 'it returns false'. Refute it at one input. -/
def fnBookFewerWrong : ChangeSpec := { name := "fnBookFewer", fn := fun _ => fun
  | [d] => { results := [.lit (.bool false)], args := [d] }
  | _ => none }
def FnBookFewerWrongFalsely : Prop := fnBookFewerRow.holds Try.pinned (OpenSpec.ofChange fnBookFewerWrong)

/-- 'laws.FnExactMergeBooks': WHATEVER THE INPUT: true; the input reads as it did. -/
def fnExactMergeBooksSpec : ChangeSpec := { name := "fnExactMergeBooks", fn := fun _ => fun
  | [d1, d2] => { results := [.lit (.bool true)], args := [d1, d2] }
  | _ => none }
def fnExactMergeBooksRow : OpenClaim := { program := "ytfeonbiokilmdaa", sum := "c93c990ab79161bc3f75006ec92e78e612a476dfd44df5050a6ad4a3c5a95d8e", func := "loop.example/rotorciphers/laws.FnExactMergeBooks", spec := "fnExactMergeBooks", apart := false }
def FnExactMergeBooksSaid : Prop := fnExactMergeBooksRow.holds Try.pinned (OpenSpec.ofChange fnExactMergeBooksSpec)

/-- ITS FALSE NEIGHBOUR: 'it returns false'. Refute it at one input. -/
def fnExactMergeBooksWrong : ChangeSpec := { name := "fnExactMergeBooks", fn := fun _ => fun
  | [d1, d2] => { results := [.lit (.bool false)], args := [d1, d2] }
  | _ => none }
def FnExactMergeBooksWrongFalsely : Prop := fnExactMergeBooksRow.holds Try.pinned (OpenSpec.ofChange fnExactMergeBooksWrong)

/-- 'laws.FnMergeBooks': WHATEVER THE INPUT: true; the input reads as it did. -/
def fnMergeBooksSpec : ChangeSpec := { name := "fnMergeBooks", fn := fun _ => fun
  | [d] => { results := [.lit (.bool true)], args := [d] }
  | _ => none }
def fnMergeBooksRow : OpenClaim := { program := "ytfeonbiokilmdaa", sum := "c93c990ab79161bc3f75006ec92e78e612a476dfd44df5050a6ad4a3c5a95d8e", func := "loop.example/rotorciphers/laws.FnMergeBooks", spec := "fnMergeBooks", apart := false }
def FnMergeBooksSaid : Prop := fnMergeBooksRow.holds Try.pinned (OpenSpec.ofChange fnMergeBooksSpec)

/-- ITS FALSE NEIGHBOUR: 'it returns false'. Refute it at one input. -/
def fnMergeBooksWrong : ChangeSpec := { name := "fnMergeBooks", fn := fun _ => fun
  | [d] => { results := [.lit (.bool false)], args := [d] }
  | _ => none }
def FnMergeBooksWrongFalsely : Prop := fnMergeBooksRow.holds Try.pinned (OpenSpec.ofChange fnMergeBooksWrong)

/-- 'laws.FnEncodeJoin': WHATEVER THE INPUT: true; the input reads as it did. -/
def fnEncodeJoinSpec : ChangeSpec := { name := "fnEncodeJoin", fn := fun _ => fun
  | [d1, d2] => { results := [.lit (.bool true)], args := [d1, d2] }
  | _ => none }
def fnEncodeJoinRow : OpenClaim := { program := "ytfeonbiokilmdaa", sum := "c93c990ab79161bc3f75006ec92e78e612a476dfd44df5050a6ad4a3c5a95d8e", func := "loop.example/rotorciphers/laws.FnEncodeJoin", spec := "fnEncodeJoin", inPlace := ["internal/abi.NoEscape"], apart := false }
def FnEncodeJoinSaid : Prop := fnEncodeJoinRow.holds Try.pinned (OpenSpec.ofChange fnEncodeJoinSpec)

/-- ITS FALSE NEIGHBOUR: 'it returns false'. Refute it at one input. -/
def fnEncodeJoinWrong : ChangeSpec := { name := "fnEncodeJoin", fn := fun _ => fun
  | [d1, d2] => { results := [.lit (.bool false)], args := [d1, d2] }
  | _ => none }
def FnEncodeJoinWrongFalsely : Prop := fnEncodeJoinRow.holds Try.pinned (OpenSpec.ofChange fnEncodeJoinWrong)

/-- 'laws.FnExactFormatBook': WHATEVER THE INPUT: true; the input reads as it did. -/
def fnExactFormatBookSpec : ChangeSpec := { name := "fnExactFormatBook", fn := fun _ => fun
  | [d] => { results := [.lit (.bool true)], args := [d] }
  | _ => none }
def fnExactFormatBookRow : OpenClaim := { program := "ytfeonbiokilmdaa", sum := "c93c990ab79161bc3f75006ec92e78e612a476dfd44df5050a6ad4a3c5a95d8e", func := "loop.example/rotorciphers/laws.FnExactFormatBook", spec := "fnExactFormatBook", inPlace := ["internal/abi.NoEscape", "internal/bytealg.MakeNoZero"], apart := false }
def FnExactFormatBookSaid : Prop := fnExactFormatBookRow.holds Try.pinned (OpenSpec.ofChange fnExactFormatBookSpec)

/-- ITS FALSE NEIGHBOUR: 'it returns false'. Refute it at one input. -/
def fnExactFormatBookWrong : ChangeSpec := { name := "fnExactFormatBook", fn := fun _ => fun
  | [d] => { results := [.lit (.bool false)], args := [d] }
  | _ => none }
def FnExactFormatBookWrongFalsely : Prop := fnExactFormatBookRow.holds Try.pinned (OpenSpec.ofChange fnExactFormatBookWrong)

/-- 'laws.FnEncodeFits': WHATEVER THE INPUT: true; the input reads as it did. -/
def fnEncodeFitsSpec : ChangeSpec := { name := "fnEncodeFits", fn := fun _ => fun
  | [d] => { results := [.lit (.bool true)], args := [d] }
  | _ => none }
def fnEncodeFitsRow : OpenClaim := { program := "ytfeonbiokilmdaa", sum := "c93c990ab79161bc3f75006ec92e78e612a476dfd44df5050a6ad4a3c5a95d8e", func := "loop.example/rotorciphers/laws.FnEncodeFits", spec := "fnEncodeFits", inPlace := ["internal/abi.NoEscape"], apart := false }
def FnEncodeFitsSaid : Prop := fnEncodeFitsRow.holds Try.pinned (OpenSpec.ofChange fnEncodeFitsSpec)

/-- ITS FALSE NEIGHBOUR: 'it returns false'. Refute it at one input. -/
def fnEncodeFitsWrong : ChangeSpec := { name := "fnEncodeFits", fn := fun _ => fun
  | [d] => { results := [.lit (.bool false)], args := [d] }
  | _ => none }
def FnEncodeFitsWrongFalsely : Prop := fnEncodeFitsRow.holds Try.pinned (OpenSpec.ofChange fnEncodeFitsWrong)

/-- 'laws.FnEncodeDecode': WHATEVER THE INPUT: true; the input reads as it did. -/
def fnEncodeDecodeSpec : ChangeSpec := { name := "fnEncodeDecode", fn := fun _ => fun
  | [d] => { results := [.lit (.bool true)], args := [d] }
  | _ => none }
def fnEncodeDecodeRow : OpenClaim := { program := "ytfeonbiokilmdaa", sum := "c93c990ab79161bc3f75006ec92e78e612a476dfd44df5050a6ad4a3c5a95d8e", func := "loop.example/rotorciphers/laws.FnEncodeDecode", spec := "fnEncodeDecode", inPlace := ["internal/abi.NoEscape"], apart := false }
def FnEncodeDecodeSaid : Prop := fnEncodeDecodeRow.holds Try.pinned (OpenSpec.ofChange fnEncodeDecodeSpec)

/-- ITS FALSE NEIGHBOUR: 'it returns false'. Refute it at one input. -/
def fnEncodeDecodeWrong : ChangeSpec := { name := "fnEncodeDecode", fn := fun _ => fun
  | [d] => { results := [.lit (.bool false)], args := [d] }
  | _ => none }
def FnEncodeDecodeWrongFalsely : Prop := fnEncodeDecodeRow.holds Try.pinned (OpenSpec.ofChange fnEncodeDecodeWrong)

/-- 'laws.FnDecodeEncode': WHATEVER THE INPUT: true; the input reads as it did. -/
def fnDecodeEncodeSpec : ChangeSpec := { name := "fnDecodeEncode", fn := fun _ => fun
  | [d] => { results := [.lit (.bool true)], args := [d] }
  | _ => none }
def fnDecodeEncodeRow : OpenClaim := { program := "ytfeonbiokilmdaa", sum := "c93c990ab79161bc3f75006ec92e78e612a476dfd44df5050a6ad4a3c5a95d8e", func := "loop.example/rotorciphers/laws.FnDecodeEncode", spec := "fnDecodeEncode", inPlace := ["internal/abi.NoEscape"], apart := false }
def FnDecodeEncodeSaid : Prop := fnDecodeEncodeRow.holds Try.pinned (OpenSpec.ofChange fnDecodeEncodeSpec)

/-- ITS FALSE NEIGHBOUR: 'it returns false'. Refute it at one input. -/
def fnDecodeEncodeWrong : ChangeSpec := { name := "fnDecodeEncode", fn := fun _ => fun
  | [d] => { results := [.lit (.bool false)], args := [d] }
  | _ => none }
def FnDecodeEncodeWrongFalsely : Prop := fnDecodeEncodeRow.holds Try.pinned (OpenSpec.ofChange fnDecodeEncodeWrong)

/-- 'laws.FnSealSum': WHATEVER THE INPUT: true; the input reads as it did. -/
def fnSealSumSpec : ChangeSpec := { name := "fnSealSum", fn := fun _ => fun
  | [d] => { results := [.lit (.bool true)], args := [d] }
  | _ => none }
def fnSealSumRow : OpenClaim := { program := "ytfeonbiokilmdaa", sum := "c93c990ab79161bc3f75006ec92e78e612a476dfd44df5050a6ad4a3c5a95d8e", func := "loop.example/rotorciphers/laws.FnSealSum", spec := "fnSealSum", inPlace := ["internal/abi.NoEscape"], apart := false }
def FnSealSumSaid : Prop := fnSealSumRow.holds Try.pinned (OpenSpec.ofChange fnSealSumSpec)

/-- ITS FALSE NEIGHBOUR: 'it returns false'. Refute it at one input. -/
def fnSealSumWrong : ChangeSpec := { name := "fnSealSum", fn := fun _ => fun
  | [d] => { results := [.lit (.bool false)], args := [d] }
  | _ => none }
def FnSealSumWrongFalsely : Prop := fnSealSumRow.holds Try.pinned (OpenSpec.ofChange fnSealSumWrong)

/-- 'laws.FnSealDepth': WHATEVER THE INPUT: true; the input reads as it did. -/
def fnSealDepthSpec : ChangeSpec := { name := "fnSealDepth", fn := fun _ => fun
  | [d] => { results := [.lit (.bool true)], args := [d] }
  | _ => none }
def fnSealDepthRow : OpenClaim := { program := "ytfeonbiokilmdaa", sum := "c93c990ab79161bc3f75006ec92e78e612a476dfd44df5050a6ad4a3c5a95d8e", func := "loop.example/rotorciphers/laws.FnSealDepth", spec := "fnSealDepth", inPlace := ["internal/abi.NoEscape"], apart := false }
def FnSealDepthSaid : Prop := fnSealDepthRow.holds Try.pinned (OpenSpec.ofChange fnSealDepthSpec)

/-- ITS FALSE NEIGHBOUR: 'it returns false'. Refute it at one input. -/
def fnSealDepthWrong : ChangeSpec := { name := "fnSealDepth", fn := fun _ => fun
  | [d] => { results := [.lit (.bool false)], args := [d] }
  | _ => none }
def FnSealDepthWrongFalsely : Prop := fnSealDepthRow.holds Try.pinned (OpenSpec.ofChange fnSealDepthWrong)

/-- 'laws.FnCodesSealOpen': WHATEVER THE INPUT: true; the input reads as it did. -/
def fnCodesSealOpenSpec : ChangeSpec := { name := "fnCodesSealOpen", fn := fun _ => fun
  | [d] => { results := [.lit (.bool true)], args := [d] }
  | _ => none }
def fnCodesSealOpenRow : OpenClaim := { program := "ytfeonbiokilmdaa", sum := "c93c990ab79161bc3f75006ec92e78e612a476dfd44df5050a6ad4a3c5a95d8e", func := "loop.example/rotorciphers/laws.FnCodesSealOpen", spec := "fnCodesSealOpen", inPlace := ["internal/abi.NoEscape"], apart := false }
def FnCodesSealOpenSaid : Prop := fnCodesSealOpenRow.holds Try.pinned (OpenSpec.ofChange fnCodesSealOpenSpec)

/-- ITS FALSE NEIGHBOUR: 'it returns false'. Refute it at one input. -/
def fnCodesSealOpenWrong : ChangeSpec := { name := "fnCodesSealOpen", fn := fun _ => fun
  | [d] => { results := [.lit (.bool false)], args := [d] }
  | _ => none }
def FnCodesSealOpenWrongFalsely : Prop := fnCodesSealOpenRow.holds Try.pinned (OpenSpec.ofChange fnCodesSealOpenWrong)

/-- 'laws.FnCodesOpenSeal': WHATEVER THE INPUT: true; the input reads as it did. -/
def fnCodesOpenSealSpec : ChangeSpec := { name := "fnCodesOpenSeal", fn := fun _ => fun
  | [d] => { results := [.lit (.bool true)], args := [d] }
  | _ => none }
def fnCodesOpenSealRow : OpenClaim := { program := "ytfeonbiokilmdaa", sum := "c93c990ab79161bc3f75006ec92e78e612a476dfd44df5050a6ad4a3c5a95d8e", func := "loop.example/rotorciphers/laws.FnCodesOpenSeal", spec := "fnCodesOpenSeal", inPlace := ["internal/abi.NoEscape"], apart := false }
def FnCodesOpenSealSaid : Prop := fnCodesOpenSealRow.holds Try.pinned (OpenSpec.ofChange fnCodesOpenSealSpec)

/-- ITS FALSE NEIGHBOUR: 'it returns false'. Refute it at one input. -/
def fnCodesOpenSealWrong : ChangeSpec := { name := "fnCodesOpenSeal", fn := fun _ => fun
  | [d] => { results := [.lit (.bool false)], args := [d] }
  | _ => none }
def FnCodesOpenSealWrongFalsely : Prop := fnCodesOpenSealRow.holds Try.pinned (OpenSpec.ofChange fnCodesOpenSealWrong)

/-- 'laws.FnExactOnePart': WHATEVER THE INPUT: true; the input reads as it did. -/
def fnExactOnePartSpec : ChangeSpec := { name := "fnExactOnePart", fn := fun _ => fun
  | [d] => { results := [.lit (.bool true)], args := [d] }
  | _ => none }
def fnExactOnePartRow : OpenClaim := { program := "ytfeonbiokilmdaa", sum := "c93c990ab79161bc3f75006ec92e78e612a476dfd44df5050a6ad4a3c5a95d8e", func := "loop.example/rotorciphers/laws.FnExactOnePart", spec := "fnExactOnePart", inPlace := ["internal/bytealg.abigen_runtime_cmpstring"], unfollowed := true, recurses := true, apart := false }
def FnExactOnePartSaid : Prop := fnExactOnePartRow.holds Try.pinned (OpenSpec.ofChange fnExactOnePartSpec)

/-- ITS FALSE NEIGHBOUR: 'it returns false'. Refute it at one input. -/
def fnExactOnePartWrong : ChangeSpec := { name := "fnExactOnePart", fn := fun _ => fun
  | [d] => { results := [.lit (.bool false)], args := [d] }
  | _ => none }
def FnExactOnePartWrongFalsely : Prop := fnExactOnePartRow.holds Try.pinned (OpenSpec.ofChange fnExactOnePartWrong)

/-- 'laws.FnExactSortBook': WHATEVER THE INPUT: true; the input reads as it did. -/
def fnExactSortBookSpec : ChangeSpec := { name := "fnExactSortBook", fn := fun _ => fun
  | [d] => { results := [.lit (.bool true)], args := [d] }
  | _ => none }
def fnExactSortBookRow : OpenClaim := { program := "ytfeonbiokilmdaa", sum := "c93c990ab79161bc3f75006ec92e78e612a476dfd44df5050a6ad4a3c5a95d8e", func := "loop.example/rotorciphers/laws.FnExactSortBook", spec := "fnExactSortBook", inPlace := ["internal/bytealg.abigen_runtime_cmpstring"], unfollowed := true, recurses := true, apart := false }
def FnExactSortBookSaid : Prop := fnExactSortBookRow.holds Try.pinned (OpenSpec.ofChange fnExactSortBookSpec)

/-- ITS FALSE NEIGHBOUR: 'it returns false'. Refute it at one input. -/
def fnExactSortBookWrong : ChangeSpec := { name := "fnExactSortBook", fn := fun _ => fun
  | [d] => { results := [.lit (.bool false)], args := [d] }
  | _ => none }
def FnExactSortBookWrongFalsely : Prop := fnExactSortBookRow.holds Try.pinned (OpenSpec.ofChange fnExactSortBookWrong)

/-- 'laws.FnOnePart': WHATEVER THE INPUT: true; the input reads as it did. -/
def fnOnePartSpec : ChangeSpec := { name := "fnOnePart", fn := fun _ => fun
  | [d] => { results := [.lit (.bool true)], args := [d] }
  | _ => none }
def fnOnePartRow : OpenClaim := { program := "ytfeonbiokilmdaa", sum := "c93c990ab79161bc3f75006ec92e78e612a476dfd44df5050a6ad4a3c5a95d8e", func := "loop.example/rotorciphers/laws.FnOnePart", spec := "fnOnePart", inPlace := ["internal/bytealg.abigen_runtime_cmpstring"], unfollowed := true, recurses := true, apart := false }
def FnOnePartSaid : Prop := fnOnePartRow.holds Try.pinned (OpenSpec.ofChange fnOnePartSpec)

/-- ITS FALSE NEIGHBOUR: 'it returns false'. Refute it at one input. -/
def fnOnePartWrong : ChangeSpec := { name := "fnOnePart", fn := fun _ => fun
  | [d] => { results := [.lit (.bool false)], args := [d] }
  | _ => none }
def FnOnePartWrongFalsely : Prop := fnOnePartRow.holds Try.pinned (OpenSpec.ofChange fnOnePartWrong)

/-- 'laws.FnSortBook': WHATEVER THE INPUT: true; the input reads as it did. -/
def fnSortBookSpec : ChangeSpec := { name := "fnSortBook", fn := fun _ => fun
  | [d] => { results := [.lit (.bool true)], args := [d] }
  | _ => none }
def fnSortBookRow : OpenClaim := { program := "ytfeonbiokilmdaa", sum := "c93c990ab79161bc3f75006ec92e78e612a476dfd44df5050a6ad4a3c5a95d8e", func := "loop.example/rotorciphers/laws.FnSortBook", spec := "fnSortBook", inPlace := ["internal/bytealg.abigen_runtime_cmpstring"], unfollowed := true, recurses := true, apart := false }
def FnSortBookSaid : Prop := fnSortBookRow.holds Try.pinned (OpenSpec.ofChange fnSortBookSpec)

/-- ITS FALSE NEIGHBOUR: 'it returns false'. Refute it at one input. -/
def fnSortBookWrong : ChangeSpec := { name := "fnSortBook", fn := fun _ => fun
  | [d] => { results := [.lit (.bool false)], args := [d] }
  | _ => none }
def FnSortBookWrongFalsely : Prop := fnSortBookRow.holds Try.pinned (OpenSpec.ofChange fnSortBookWrong)

/-- 'laws.FnMergeBooksTurned': WHATEVER THE INPUT: true; the input reads as it did. -/
def fnMergeBooksTurnedSpec : ChangeSpec := { name := "fnMergeBooksTurned", fn := fun _ => fun
  | [d] => { results := [.lit (.bool true)], args := [d] }
  | _ => none }
def fnMergeBooksTurnedRow : OpenClaim := { program := "ytfeonbiokilmdaa", sum := "c93c990ab79161bc3f75006ec92e78e612a476dfd44df5050a6ad4a3c5a95d8e", func := "loop.example/rotorciphers/laws.FnMergeBooksTurned", spec := "fnMergeBooksTurned", inPlace := ["internal/bytealg.abigen_runtime_cmpstring"], unfollowed := true, recurses := true, apart := false }
def FnMergeBooksTurnedSaid : Prop := fnMergeBooksTurnedRow.holds Try.pinned (OpenSpec.ofChange fnMergeBooksTurnedSpec)

/-- ITS FALSE NEIGHBOUR: 'it returns false'. Refute it at one input. -/
def fnMergeBooksTurnedWrong : ChangeSpec := { name := "fnMergeBooksTurned", fn := fun _ => fun
  | [d] => { results := [.lit (.bool false)], args := [d] }
  | _ => none }
def FnMergeBooksTurnedWrongFalsely : Prop := fnMergeBooksTurnedRow.holds Try.pinned (OpenSpec.ofChange fnMergeBooksTurnedWrong)

/-- 'laws.FnSortLookup': WHATEVER THE INPUT: true; the input reads as it did. -/
def fnSortLookupSpec : ChangeSpec := { name := "fnSortLookup", fn := fun _ => fun
  | [d] => { results := [.lit (.bool true)], args := [d] }
  | _ => none }
def fnSortLookupRow : OpenClaim := { program := "ytfeonbiokilmdaa", sum := "c93c990ab79161bc3f75006ec92e78e612a476dfd44df5050a6ad4a3c5a95d8e", func := "loop.example/rotorciphers/laws.FnSortLookup", spec := "fnSortLookup", inPlace := ["internal/abi.NoEscape", "internal/bytealg.abigen_runtime_cmpstring"], unfollowed := true, recurses := true, apart := false }
def FnSortLookupSaid : Prop := fnSortLookupRow.holds Try.pinned (OpenSpec.ofChange fnSortLookupSpec)

/-- ITS FALSE NEIGHBOUR: 'it returns false'. Refute it at one input. -/
def fnSortLookupWrong : ChangeSpec := { name := "fnSortLookup", fn := fun _ => fun
  | [d] => { results := [.lit (.bool false)], args := [d] }
  | _ => none }
def FnSortLookupWrongFalsely : Prop := fnSortLookupRow.holds Try.pinned (OpenSpec.ofChange fnSortLookupWrong)

/- THE SECOND FORM. 'bulk': how many values and letters a reading holds, each counted each time it is reached (what is shared counts as often as it is met; a slice's spare places count too). A statement '..UptoSaid' is the law's where the arguments, and the package variables that the reading takes, are together of bulk at most 1048576: NARROWER than '..Said'. Prove '..Said' where nothing that the law and all that it calls make is longer than what came in: it says more and counts as full. Else prove '..UptoSaid'. A law counts once. -/
mutual
def uptoBulk {H : Type} : DataW H → Nat
  | .lit (.string bytes) => bytes.length + 1
  | .lit _ => 1
  | .nil => 1
  | .ptr d => uptoBulk d + 1
  | .slice elems spare => uptoBulkAll elems + uptoBulkAll spare + 1
  | .agg parts => uptoBulkAll parts + 1
  | .iface _ d => uptoBulk d + 1
  | .map entries => uptoBulkEntries entries + 1
  | .held _ => 1
def uptoBulkAll {H : Type} : List (DataW H) → Nat
  | [] => 0
  | d :: r => uptoBulk d + uptoBulkAll r
def uptoBulkEntries {H : Type} : List (Lit × DataW H) → Nat
  | [] => 0
  | x :: r => uptoBulkEntry x + uptoBulkEntries r
def uptoBulkEntry {H : Type} : Lit × DataW H → Nat
  | (.string bytes, d) => bytes.length + uptoBulk d + 1
  | (_, d) => uptoBulk d + 1
 end
def uptoSmall : (H : Type) → List (DataW H) → Bool := fun _ ds => decide (uptoBulkAll ds ≤ 1048576)
def OpenSpec.upto (s : _root_.Go.ChangeSpec) : _root_.Go.OpenSpec := { _root_.Go.OpenSpec.ofChange s with cond := some uptoSmall }

/-- 'laws.FnBookFewer', WHERE WHAT IT READS IS OF BULK AT MOST 1048576: true; the input reads as it did. -/
def fnBookFewerUptoRow : OpenClaim := { program := "ytfeonbiokilmdaa", sum := "c93c990ab79161bc3f75006ec92e78e612a476dfd44df5050a6ad4a3c5a95d8e", func := "loop.example/rotorciphers/laws.FnBookFewer", spec := "fnBookFewer", apart := false, narrowed := true }
def FnBookFewerUptoSaid : Prop := fnBookFewerUptoRow.holds Try.pinned (OpenSpec.upto fnBookFewerSpec)

/-- 'laws.FnExactMergeBooks', WHERE WHAT IT READS IS OF BULK AT MOST 1048576: true; the input reads as it did. -/
def fnExactMergeBooksUptoRow : OpenClaim := { program := "ytfeonbiokilmdaa", sum := "c93c990ab79161bc3f75006ec92e78e612a476dfd44df5050a6ad4a3c5a95d8e", func := "loop.example/rotorciphers/laws.FnExactMergeBooks", spec := "fnExactMergeBooks", apart := false, narrowed := true }
def FnExactMergeBooksUptoSaid : Prop := fnExactMergeBooksUptoRow.holds Try.pinned (OpenSpec.upto fnExactMergeBooksSpec)

/-- 'laws.FnMergeBooks', WHERE WHAT IT READS IS OF BULK AT MOST 1048576: true; the input reads as it did. -/
def fnMergeBooksUptoRow : OpenClaim := { program := "ytfeonbiokilmdaa", sum := "c93c990ab79161bc3f75006ec92e78e612a476dfd44df5050a6ad4a3c5a95d8e", func := "loop.example/rotorciphers/laws.FnMergeBooks", spec := "fnMergeBooks", apart := false, narrowed := true }
def FnMergeBooksUptoSaid : Prop := fnMergeBooksUptoRow.holds Try.pinned (OpenSpec.upto fnMergeBooksSpec)

/-- 'laws.FnEncodeJoin', WHERE WHAT IT READS IS OF BULK AT MOST 1048576: true; the input reads as it did. -/
def fnEncodeJoinUptoRow : OpenClaim := { program := "ytfeonbiokilmdaa", sum := "c93c990ab79161bc3f75006ec92e78e612a476dfd44df5050a6ad4a3c5a95d8e", func := "loop.example/rotorciphers/laws.FnEncodeJoin", spec := "fnEncodeJoin", inPlace := ["internal/abi.NoEscape"], apart := false, narrowed := true }
def FnEncodeJoinUptoSaid : Prop := fnEncodeJoinUptoRow.holds Try.pinned (OpenSpec.upto fnEncodeJoinSpec)

/-- 'laws.FnExactFormatBook', WHERE WHAT IT READS IS OF BULK AT MOST 1048576: true; the input reads as it did. -/
def fnExactFormatBookUptoRow : OpenClaim := { program := "ytfeonbiokilmdaa", sum := "c93c990ab79161bc3f75006ec92e78e612a476dfd44df5050a6ad4a3c5a95d8e", func := "loop.example/rotorciphers/laws.FnExactFormatBook", spec := "fnExactFormatBook", inPlace := ["internal/abi.NoEscape", "internal/bytealg.MakeNoZero"], apart := false, narrowed := true }
def FnExactFormatBookUptoSaid : Prop := fnExactFormatBookUptoRow.holds Try.pinned (OpenSpec.upto fnExactFormatBookSpec)

/-- 'laws.FnEncodeFits', WHERE WHAT IT READS IS OF BULK AT MOST 1048576: true; the input reads as it did. -/
def fnEncodeFitsUptoRow : OpenClaim := { program := "ytfeonbiokilmdaa", sum := "c93c990ab79161bc3f75006ec92e78e612a476dfd44df5050a6ad4a3c5a95d8e", func := "loop.example/rotorciphers/laws.FnEncodeFits", spec := "fnEncodeFits", inPlace := ["internal/abi.NoEscape"], apart := false, narrowed := true }
def FnEncodeFitsUptoSaid : Prop := fnEncodeFitsUptoRow.holds Try.pinned (OpenSpec.upto fnEncodeFitsSpec)

/-- 'laws.FnEncodeDecode', WHERE WHAT IT READS IS OF BULK AT MOST 1048576: true; the input reads as it did. -/
def fnEncodeDecodeUptoRow : OpenClaim := { program := "ytfeonbiokilmdaa", sum := "c93c990ab79161bc3f75006ec92e78e612a476dfd44df5050a6ad4a3c5a95d8e", func := "loop.example/rotorciphers/laws.FnEncodeDecode", spec := "fnEncodeDecode", inPlace := ["internal/abi.NoEscape"], apart := false, narrowed := true }
def FnEncodeDecodeUptoSaid : Prop := fnEncodeDecodeUptoRow.holds Try.pinned (OpenSpec.upto fnEncodeDecodeSpec)

/-- 'laws.FnDecodeEncode', WHERE WHAT IT READS IS OF BULK AT MOST 1048576: true; the input reads as it did. -/
def fnDecodeEncodeUptoRow : OpenClaim := { program := "ytfeonbiokilmdaa", sum := "c93c990ab79161bc3f75006ec92e78e612a476dfd44df5050a6ad4a3c5a95d8e", func := "loop.example/rotorciphers/laws.FnDecodeEncode", spec := "fnDecodeEncode", inPlace := ["internal/abi.NoEscape"], apart := false, narrowed := true }
def FnDecodeEncodeUptoSaid : Prop := fnDecodeEncodeUptoRow.holds Try.pinned (OpenSpec.upto fnDecodeEncodeSpec)

/-- 'laws.FnSealSum', WHERE WHAT IT READS IS OF BULK AT MOST 1048576: true; the input reads as it did. -/
def fnSealSumUptoRow : OpenClaim := { program := "ytfeonbiokilmdaa", sum := "c93c990ab79161bc3f75006ec92e78e612a476dfd44df5050a6ad4a3c5a95d8e", func := "loop.example/rotorciphers/laws.FnSealSum", spec := "fnSealSum", inPlace := ["internal/abi.NoEscape"], apart := false, narrowed := true }
def FnSealSumUptoSaid : Prop := fnSealSumUptoRow.holds Try.pinned (OpenSpec.upto fnSealSumSpec)

/-- 'laws.FnSealDepth', WHERE WHAT IT READS IS OF BULK AT MOST 1048576: true; the input reads as it did. -/
def fnSealDepthUptoRow : OpenClaim := { program := "ytfeonbiokilmdaa", sum := "c93c990ab79161bc3f75006ec92e78e612a476dfd44df5050a6ad4a3c5a95d8e", func := "loop.example/rotorciphers/laws.FnSealDepth", spec := "fnSealDepth", inPlace := ["internal/abi.NoEscape"], apart := false, narrowed := true }
def FnSealDepthUptoSaid : Prop := fnSealDepthUptoRow.holds Try.pinned (OpenSpec.upto fnSealDepthSpec)

/-- 'laws.FnCodesSealOpen', WHERE WHAT IT READS IS OF BULK AT MOST 1048576: true; the input reads as it did. -/
def fnCodesSealOpenUptoRow : OpenClaim := { program := "ytfeonbiokilmdaa", sum := "c93c990ab79161bc3f75006ec92e78e612a476dfd44df5050a6ad4a3c5a95d8e", func := "loop.example/rotorciphers/laws.FnCodesSealOpen", spec := "fnCodesSealOpen", inPlace := ["internal/abi.NoEscape"], apart := false, narrowed := true }
def FnCodesSealOpenUptoSaid : Prop := fnCodesSealOpenUptoRow.holds Try.pinned (OpenSpec.upto fnCodesSealOpenSpec)

/-- 'laws.FnCodesOpenSeal', WHERE WHAT IT READS IS OF BULK AT MOST 1048576: true; the input reads as it did. -/
def fnCodesOpenSealUptoRow : OpenClaim := { program := "ytfeonbiokilmdaa", sum := "c93c990ab79161bc3f75006ec92e78e612a476dfd44df5050a6ad4a3c5a95d8e", func := "loop.example/rotorciphers/laws.FnCodesOpenSeal", spec := "fnCodesOpenSeal", inPlace := ["internal/abi.NoEscape"], apart := false, narrowed := true }
def FnCodesOpenSealUptoSaid : Prop := fnCodesOpenSealUptoRow.holds Try.pinned (OpenSpec.upto fnCodesOpenSealSpec)

/-- 'laws.FnExactOnePart', WHERE WHAT IT READS IS OF BULK AT MOST 1048576: true; the input reads as it did. -/
def fnExactOnePartUptoRow : OpenClaim := { program := "ytfeonbiokilmdaa", sum := "c93c990ab79161bc3f75006ec92e78e612a476dfd44df5050a6ad4a3c5a95d8e", func := "loop.example/rotorciphers/laws.FnExactOnePart", spec := "fnExactOnePart", inPlace := ["internal/bytealg.abigen_runtime_cmpstring"], unfollowed := true, recurses := true, apart := false, narrowed := true }
def FnExactOnePartUptoSaid : Prop := fnExactOnePartUptoRow.holds Try.pinned (OpenSpec.upto fnExactOnePartSpec)

/-- 'laws.FnExactSortBook', WHERE WHAT IT READS IS OF BULK AT MOST 1048576: true; the input reads as it did. -/
def fnExactSortBookUptoRow : OpenClaim := { program := "ytfeonbiokilmdaa", sum := "c93c990ab79161bc3f75006ec92e78e612a476dfd44df5050a6ad4a3c5a95d8e", func := "loop.example/rotorciphers/laws.FnExactSortBook", spec := "fnExactSortBook", inPlace := ["internal/bytealg.abigen_runtime_cmpstring"], unfollowed := true, recurses := true, apart := false, narrowed := true }
def FnExactSortBookUptoSaid : Prop := fnExactSortBookUptoRow.holds Try.pinned (OpenSpec.upto fnExactSortBookSpec)

/-- 'laws.FnOnePart', WHERE WHAT IT READS IS OF BULK AT MOST 1048576: true; the input reads as it did. -/
def fnOnePartUptoRow : OpenClaim := { program := "ytfeonbiokilmdaa", sum := "c93c990ab79161bc3f75006ec92e78e612a476dfd44df5050a6ad4a3c5a95d8e", func := "loop.example/rotorciphers/laws.FnOnePart", spec := "fnOnePart", inPlace := ["internal/bytealg.abigen_runtime_cmpstring"], unfollowed := true, recurses := true, apart := false, narrowed := true }
def FnOnePartUptoSaid : Prop := fnOnePartUptoRow.holds Try.pinned (OpenSpec.upto fnOnePartSpec)

/-- 'laws.FnSortBook', WHERE WHAT IT READS IS OF BULK AT MOST 1048576: true; the input reads as it did. -/
def fnSortBookUptoRow : OpenClaim := { program := "ytfeonbiokilmdaa", sum := "c93c990ab79161bc3f75006ec92e78e612a476dfd44df5050a6ad4a3c5a95d8e", func := "loop.example/rotorciphers/laws.FnSortBook", spec := "fnSortBook", inPlace := ["internal/bytealg.abigen_runtime_cmpstring"], unfollowed := true, recurses := true, apart := false, narrowed := true }
def FnSortBookUptoSaid : Prop := fnSortBookUptoRow.holds Try.pinned (OpenSpec.upto fnSortBookSpec)

/-- 'laws.FnMergeBooksTurned', WHERE WHAT IT READS IS OF BULK AT MOST 1048576: true; the input reads as it did. -/
def fnMergeBooksTurnedUptoRow : OpenClaim := { program := "ytfeonbiokilmdaa", sum := "c93c990ab79161bc3f75006ec92e78e612a476dfd44df5050a6ad4a3c5a95d8e", func := "loop.example/rotorciphers/laws.FnMergeBooksTurned", spec := "fnMergeBooksTurned", inPlace := ["internal/bytealg.abigen_runtime_cmpstring"], unfollowed := true, recurses := true, apart := false, narrowed := true }
def FnMergeBooksTurnedUptoSaid : Prop := fnMergeBooksTurnedUptoRow.holds Try.pinned (OpenSpec.upto fnMergeBooksTurnedSpec)

/-- 'laws.FnSortLookup', WHERE WHAT IT READS IS OF BULK AT MOST 1048576: true; the input reads as it did. -/
def fnSortLookupUptoRow : OpenClaim := { program := "ytfeonbiokilmdaa", sum := "c93c990ab79161bc3f75006ec92e78e612a476dfd44df5050a6ad4a3c5a95d8e", func := "loop.example/rotorciphers/laws.FnSortLookup", spec := "fnSortLookup", inPlace := ["internal/abi.NoEscape", "internal/bytealg.abigen_runtime_cmpstring"], unfollowed := true, recurses := true, apart := false, narrowed := true }
def FnSortLookupUptoSaid : Prop := fnSortLookupUptoRow.holds Try.pinned (OpenSpec.upto fnSortLookupSpec)

end Rows
end Go.Proofs.Ytfeonbiokilmdaa
