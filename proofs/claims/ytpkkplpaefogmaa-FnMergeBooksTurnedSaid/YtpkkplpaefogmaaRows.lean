/-
  No cell of these rows narrows 'for every input' (looked for: loops, veiled, ifaces, maps, wideKeys, modest, calm, conditions, laid).
  DERIVED. THE GIVEN ROWS OF THIS SEAT. 9 by the template 'for every input the law returns true; each argument reads behind the call as it read before'; 0 by the template 'total and deterministic' (their statements: YtpkkplpaefogmaaTotals.lean).
  GIVEN WITH THE SEED: the statements are not yours to turn. If you find one false, say at which input.
  Laid BY PROGRAM, IN A SANDBOX (cutbox-rows.mjs): the forced cells as the released guide's own fill.sh prints them over the translation 7a1a1e346ff94f57… (all of the seat's roots in one cut). By AI agents, Wed Nov 11 2026. No macro, syntax, notation, axiom, sorry.
-/
import Derived.Test.YtpkkplpaefogmaaChecked
import GoSem.Claim
import GoSem.ClaimJoined
import GoSem.ClaimMapViews
import Derived.JoinedTies
import Derived.KernelRfl
namespace Go.Proofs.Ytpkkplpaefogmaa
/- THE CELL 'sum', in the pinned program and in every row, IS THE sha256 OF THE DUMP (.gsa) THAT YtpkkplpaefogmaaProg.lean LOADS. Nothing in Lean hashes anything: it is a label: what it is worth is what the hold of that sum in a sandbox is worth. -/
noncomputable def Try.pinned : Pinned := { name := "ytpkkplpaefogmaa", sum := "7a1a1e346ff94f57c26d0fb3d8eb0d39a4846f4c529f2a1888d145e38a210dd6", checked := Try.checked }
namespace Rows
def none {H : Type} : Left H := { results := [], args := [] }

/-- 'laws.FnBookFewer': WHATEVER THE INPUT: true; the input reads as it did. -/
def fnBookFewerSpec : ChangeSpec := { name := "fnBookFewer", fn := fun _ => fun
  | [d] => { results := [.lit (.bool true)], args := [d] }
  | _ => none }
def fnBookFewerRow : OpenClaim := { program := "ytpkkplpaefogmaa", sum := "7a1a1e346ff94f57c26d0fb3d8eb0d39a4846f4c529f2a1888d145e38a210dd6", func := "loop.example/rotorciphers/laws.FnBookFewer", spec := "fnBookFewer", apart := false }
def FnBookFewerSaid : Prop := fnBookFewerRow.holds Try.pinned (OpenSpec.ofChange fnBookFewerSpec)

/-- ITS FALSE NEIGHBOUR: 'it returns false'. Refute it at one input. -/
def fnBookFewerWrong : ChangeSpec := { name := "fnBookFewer", fn := fun _ => fun
  | [d] => { results := [.lit (.bool false)], args := [d] }
  | _ => none }
def FnBookFewerWrongFalsely : Prop := fnBookFewerRow.holds Try.pinned (OpenSpec.ofChange fnBookFewerWrong)

/-- 'laws.FnExactMergeBooks': WHATEVER THE INPUT: true; the input reads as it did. -/
def fnExactMergeBooksSpec : ChangeSpec := { name := "fnExactMergeBooks", fn := fun _ => fun
  | [d1, d2] => { results := [.lit (.bool true)], args := [d1, d2] }
  | _ => none }
def fnExactMergeBooksRow : OpenClaim := { program := "ytpkkplpaefogmaa", sum := "7a1a1e346ff94f57c26d0fb3d8eb0d39a4846f4c529f2a1888d145e38a210dd6", func := "loop.example/rotorciphers/laws.FnExactMergeBooks", spec := "fnExactMergeBooks", apart := false }
def FnExactMergeBooksSaid : Prop := fnExactMergeBooksRow.holds Try.pinned (OpenSpec.ofChange fnExactMergeBooksSpec)

/-- ITS FALSE NEIGHBOUR: 'it returns false'. Refute it at one input. -/
def fnExactMergeBooksWrong : ChangeSpec := { name := "fnExactMergeBooks", fn := fun _ => fun
  | [d1, d2] => { results := [.lit (.bool false)], args := [d1, d2] }
  | _ => none }
def FnExactMergeBooksWrongFalsely : Prop := fnExactMergeBooksRow.holds Try.pinned (OpenSpec.ofChange fnExactMergeBooksWrong)

/-- 'laws.FnMergeBooks': WHATEVER THE INPUT: true; the input reads as it did. -/
def fnMergeBooksSpec : ChangeSpec := { name := "fnMergeBooks", fn := fun _ => fun
  | [d] => { results := [.lit (.bool true)], args := [d] }
  | _ => none }
def fnMergeBooksRow : OpenClaim := { program := "ytpkkplpaefogmaa", sum := "7a1a1e346ff94f57c26d0fb3d8eb0d39a4846f4c529f2a1888d145e38a210dd6", func := "loop.example/rotorciphers/laws.FnMergeBooks", spec := "fnMergeBooks", apart := false }
def FnMergeBooksSaid : Prop := fnMergeBooksRow.holds Try.pinned (OpenSpec.ofChange fnMergeBooksSpec)

/-- ITS FALSE NEIGHBOUR: 'it returns false'. Refute it at one input. -/
def fnMergeBooksWrong : ChangeSpec := { name := "fnMergeBooks", fn := fun _ => fun
  | [d] => { results := [.lit (.bool false)], args := [d] }
  | _ => none }
def FnMergeBooksWrongFalsely : Prop := fnMergeBooksRow.holds Try.pinned (OpenSpec.ofChange fnMergeBooksWrong)

/-- 'laws.FnExactOnePart': WHATEVER THE INPUT: true; the input reads as it did. -/
def fnExactOnePartSpec : ChangeSpec := { name := "fnExactOnePart", fn := fun _ => fun
  | [d] => { results := [.lit (.bool true)], args := [d] }
  | _ => none }
def fnExactOnePartRow : OpenClaim := { program := "ytpkkplpaefogmaa", sum := "7a1a1e346ff94f57c26d0fb3d8eb0d39a4846f4c529f2a1888d145e38a210dd6", func := "loop.example/rotorciphers/laws.FnExactOnePart", spec := "fnExactOnePart", inPlace := ["internal/bytealg.abigen_runtime_cmpstring"], unfollowed := true, recurses := true, apart := false }
def FnExactOnePartSaid : Prop := fnExactOnePartRow.holds Try.pinned (OpenSpec.ofChange fnExactOnePartSpec)

/-- ITS FALSE NEIGHBOUR: 'it returns false'. Refute it at one input. -/
def fnExactOnePartWrong : ChangeSpec := { name := "fnExactOnePart", fn := fun _ => fun
  | [d] => { results := [.lit (.bool false)], args := [d] }
  | _ => none }
def FnExactOnePartWrongFalsely : Prop := fnExactOnePartRow.holds Try.pinned (OpenSpec.ofChange fnExactOnePartWrong)

/-- 'laws.FnExactSortBook': WHATEVER THE INPUT: true; the input reads as it did. -/
def fnExactSortBookSpec : ChangeSpec := { name := "fnExactSortBook", fn := fun _ => fun
  | [d] => { results := [.lit (.bool true)], args := [d] }
  | _ => none }
def fnExactSortBookRow : OpenClaim := { program := "ytpkkplpaefogmaa", sum := "7a1a1e346ff94f57c26d0fb3d8eb0d39a4846f4c529f2a1888d145e38a210dd6", func := "loop.example/rotorciphers/laws.FnExactSortBook", spec := "fnExactSortBook", inPlace := ["internal/bytealg.abigen_runtime_cmpstring"], unfollowed := true, recurses := true, apart := false }
def FnExactSortBookSaid : Prop := fnExactSortBookRow.holds Try.pinned (OpenSpec.ofChange fnExactSortBookSpec)

/-- ITS FALSE NEIGHBOUR: 'it returns false'. Refute it at one input. -/
def fnExactSortBookWrong : ChangeSpec := { name := "fnExactSortBook", fn := fun _ => fun
  | [d] => { results := [.lit (.bool false)], args := [d] }
  | _ => none }
def FnExactSortBookWrongFalsely : Prop := fnExactSortBookRow.holds Try.pinned (OpenSpec.ofChange fnExactSortBookWrong)

/-- 'laws.FnOnePart': WHATEVER THE INPUT: true; the input reads as it did. -/
def fnOnePartSpec : ChangeSpec := { name := "fnOnePart", fn := fun _ => fun
  | [d] => { results := [.lit (.bool true)], args := [d] }
  | _ => none }
def fnOnePartRow : OpenClaim := { program := "ytpkkplpaefogmaa", sum := "7a1a1e346ff94f57c26d0fb3d8eb0d39a4846f4c529f2a1888d145e38a210dd6", func := "loop.example/rotorciphers/laws.FnOnePart", spec := "fnOnePart", inPlace := ["internal/bytealg.abigen_runtime_cmpstring"], unfollowed := true, recurses := true, apart := false }
def FnOnePartSaid : Prop := fnOnePartRow.holds Try.pinned (OpenSpec.ofChange fnOnePartSpec)

/-- ITS FALSE NEIGHBOUR: 'it returns false'. Refute it at one input. -/
def fnOnePartWrong : ChangeSpec := { name := "fnOnePart", fn := fun _ => fun
  | [d] => { results := [.lit (.bool false)], args := [d] }
  | _ => none }
def FnOnePartWrongFalsely : Prop := fnOnePartRow.holds Try.pinned (OpenSpec.ofChange fnOnePartWrong)

/-- 'laws.FnSortBook': WHATEVER THE INPUT: true; the input reads as it did. -/
def fnSortBookSpec : ChangeSpec := { name := "fnSortBook", fn := fun _ => fun
  | [d] => { results := [.lit (.bool true)], args := [d] }
  | _ => none }
def fnSortBookRow : OpenClaim := { program := "ytpkkplpaefogmaa", sum := "7a1a1e346ff94f57c26d0fb3d8eb0d39a4846f4c529f2a1888d145e38a210dd6", func := "loop.example/rotorciphers/laws.FnSortBook", spec := "fnSortBook", inPlace := ["internal/bytealg.abigen_runtime_cmpstring"], unfollowed := true, recurses := true, apart := false }
def FnSortBookSaid : Prop := fnSortBookRow.holds Try.pinned (OpenSpec.ofChange fnSortBookSpec)

/-- ITS FALSE NEIGHBOUR: 'it returns false'. Refute it at one input. -/
def fnSortBookWrong : ChangeSpec := { name := "fnSortBook", fn := fun _ => fun
  | [d] => { results := [.lit (.bool false)], args := [d] }
  | _ => none }
def FnSortBookWrongFalsely : Prop := fnSortBookRow.holds Try.pinned (OpenSpec.ofChange fnSortBookWrong)

/-- 'laws.FnMergeBooksTurned': WHATEVER THE INPUT: true; the input reads as it did. -/
def fnMergeBooksTurnedSpec : ChangeSpec := { name := "fnMergeBooksTurned", fn := fun _ => fun
  | [d] => { results := [.lit (.bool true)], args := [d] }
  | _ => none }
def fnMergeBooksTurnedRow : OpenClaim := { program := "ytpkkplpaefogmaa", sum := "7a1a1e346ff94f57c26d0fb3d8eb0d39a4846f4c529f2a1888d145e38a210dd6", func := "loop.example/rotorciphers/laws.FnMergeBooksTurned", spec := "fnMergeBooksTurned", inPlace := ["internal/bytealg.abigen_runtime_cmpstring"], unfollowed := true, recurses := true, apart := false }
def FnMergeBooksTurnedSaid : Prop := fnMergeBooksTurnedRow.holds Try.pinned (OpenSpec.ofChange fnMergeBooksTurnedSpec)

/-- ITS FALSE NEIGHBOUR: 'it returns false'. Refute it at one input. -/
def fnMergeBooksTurnedWrong : ChangeSpec := { name := "fnMergeBooksTurned", fn := fun _ => fun
  | [d] => { results := [.lit (.bool false)], args := [d] }
  | _ => none }
def FnMergeBooksTurnedWrongFalsely : Prop := fnMergeBooksTurnedRow.holds Try.pinned (OpenSpec.ofChange fnMergeBooksTurnedWrong)

/-- 'laws.FnSortLookup': WHATEVER THE INPUT: true; the input reads as it did. -/
def fnSortLookupSpec : ChangeSpec := { name := "fnSortLookup", fn := fun _ => fun
  | [d] => { results := [.lit (.bool true)], args := [d] }
  | _ => none }
def fnSortLookupRow : OpenClaim := { program := "ytpkkplpaefogmaa", sum := "7a1a1e346ff94f57c26d0fb3d8eb0d39a4846f4c529f2a1888d145e38a210dd6", func := "loop.example/rotorciphers/laws.FnSortLookup", spec := "fnSortLookup", inPlace := ["internal/abi.NoEscape", "internal/bytealg.abigen_runtime_cmpstring"], unfollowed := true, recurses := true, apart := false }
def FnSortLookupSaid : Prop := fnSortLookupRow.holds Try.pinned (OpenSpec.ofChange fnSortLookupSpec)

/-- ITS FALSE NEIGHBOUR: 'it returns false'. Refute it at one input. -/
def fnSortLookupWrong : ChangeSpec := { name := "fnSortLookup", fn := fun _ => fun
  | [d] => { results := [.lit (.bool false)], args := [d] }
  | _ => none }
def FnSortLookupWrongFalsely : Prop := fnSortLookupRow.holds Try.pinned (OpenSpec.ofChange fnSortLookupWrong)

/- THE SECOND FORM. 'bulk': how many values and letters a reading holds, each counted each time it is reached (what is shared counts as often as it is met; a slice's spare places count too). A statement '..UptoSaid' is the law's where the arguments, and the package variables that the reading takes, are together of bulk at most 1048576: NARROWER than '..Said'. Prove '..Said' where nothing that the law and all that it calls make is longer than what came in: it says more and counts as full. Else prove '..UptoSaid'. A law counts once. -/
mutual
def uptoBulk {H : Type} : DataW H → Nat
  | .lit (.string bytes) => bytes.length + 1
  | .lit _ => 1
  | .nil => 1
  | .ptr d => uptoBulk d + 1
  | .slice elems spare => uptoBulkAll elems + uptoBulkAll spare + 1
  | .agg parts => uptoBulkAll parts + 1
  | .iface _ d => uptoBulk d + 1
  | .map entries => uptoBulkEntries entries + 1
  | .held _ => 1
def uptoBulkAll {H : Type} : List (DataW H) → Nat
  | [] => 0
  | d :: r => uptoBulk d + uptoBulkAll r
def uptoBulkEntries {H : Type} : List (Lit × DataW H) → Nat
  | [] => 0
  | x :: r => uptoBulkEntry x + uptoBulkEntries r
def uptoBulkEntry {H : Type} : Lit × DataW H → Nat
  | (.string bytes, d) => bytes.length + uptoBulk d + 1
  | (_, d) => uptoBulk d + 1
 end
def uptoSmall : (H : Type) → List (DataW H) → Bool := fun _ ds => decide (uptoBulkAll ds ≤ 1048576)
def OpenSpec.upto (s : _root_.Go.ChangeSpec) : _root_.Go.OpenSpec := { _root_.Go.OpenSpec.ofChange s with cond := some uptoSmall }

/-- 'laws.FnBookFewer', WHERE WHAT IT READS IS OF BULK AT MOST 1048576: true; the input reads as it did. -/
def fnBookFewerUptoRow : OpenClaim := { program := "ytpkkplpaefogmaa", sum := "7a1a1e346ff94f57c26d0fb3d8eb0d39a4846f4c529f2a1888d145e38a210dd6", func := "loop.example/rotorciphers/laws.FnBookFewer", spec := "fnBookFewer", apart := false, narrowed := true }
def FnBookFewerUptoSaid : Prop := fnBookFewerUptoRow.holds Try.pinned (OpenSpec.upto fnBookFewerSpec)

/-- 'laws.FnExactMergeBooks', WHERE WHAT IT READS IS OF BULK AT MOST 1048576: true; the input reads as it did. -/
def fnExactMergeBooksUptoRow : OpenClaim := { program := "ytpkkplpaefogmaa", sum := "7a1a1e346ff94f57c26d0fb3d8eb0d39a4846f4c529f2a1888d145e38a210dd6", func := "loop.example/rotorciphers/laws.FnExactMergeBooks", spec := "fnExactMergeBooks", apart := false, narrowed := true }
def FnExactMergeBooksUptoSaid : Prop := fnExactMergeBooksUptoRow.holds Try.pinned (OpenSpec.upto fnExactMergeBooksSpec)

/-- 'laws.FnMergeBooks', WHERE WHAT IT READS IS OF BULK AT MOST 1048576: true; the input reads as it did. -/
def fnMergeBooksUptoRow : OpenClaim := { program := "ytpkkplpaefogmaa", sum := "7a1a1e346ff94f57c26d0fb3d8eb0d39a4846f4c529f2a1888d145e38a210dd6", func := "loop.example/rotorciphers/laws.FnMergeBooks", spec := "fnMergeBooks", apart := false, narrowed := true }
def FnMergeBooksUptoSaid : Prop := fnMergeBooksUptoRow.holds Try.pinned (OpenSpec.upto fnMergeBooksSpec)

/-- 'laws.FnExactOnePart', WHERE WHAT IT READS IS OF BULK AT MOST 1048576: true; the input reads as it did. -/
def fnExactOnePartUptoRow : OpenClaim := { program := "ytpkkplpaefogmaa", sum := "7a1a1e346ff94f57c26d0fb3d8eb0d39a4846f4c529f2a1888d145e38a210dd6", func := "loop.example/rotorciphers/laws.FnExactOnePart", spec := "fnExactOnePart", inPlace := ["internal/bytealg.abigen_runtime_cmpstring"], unfollowed := true, recurses := true, apart := false, narrowed := true }
def FnExactOnePartUptoSaid : Prop := fnExactOnePartUptoRow.holds Try.pinned (OpenSpec.upto fnExactOnePartSpec)

/-- 'laws.FnExactSortBook', WHERE WHAT IT READS IS OF BULK AT MOST 1048576: true; the input reads as it did. -/
def fnExactSortBookUptoRow : OpenClaim := { program := "ytpkkplpaefogmaa", sum := "7a1a1e346ff94f57c26d0fb3d8eb0d39a4846f4c529f2a1888d145e38a210dd6", func := "loop.example/rotorciphers/laws.FnExactSortBook", spec := "fnExactSortBook", inPlace := ["internal/bytealg.abigen_runtime_cmpstring"], unfollowed := true, recurses := true, apart := false, narrowed := true }
def FnExactSortBookUptoSaid : Prop := fnExactSortBookUptoRow.holds Try.pinned (OpenSpec.upto fnExactSortBookSpec)

/-- 'laws.FnOnePart', WHERE WHAT IT READS IS OF BULK AT MOST 1048576: true; the input reads as it did. -/
def fnOnePartUptoRow : OpenClaim := { program := "ytpkkplpaefogmaa", sum := "7a1a1e346ff94f57c26d0fb3d8eb0d39a4846f4c529f2a1888d145e38a210dd6", func := "loop.example/rotorciphers/laws.FnOnePart", spec := "fnOnePart", inPlace := ["internal/bytealg.abigen_runtime_cmpstring"], unfollowed := true, recurses := true, apart := false, narrowed := true }
def FnOnePartUptoSaid : Prop := fnOnePartUptoRow.holds Try.pinned (OpenSpec.upto fnOnePartSpec)

/-- 'laws.FnSortBook', WHERE WHAT IT READS IS OF BULK AT MOST 1048576: true; the input reads as it did. -/
def fnSortBookUptoRow : OpenClaim := { program := "ytpkkplpaefogmaa", sum := "7a1a1e346ff94f57c26d0fb3d8eb0d39a4846f4c529f2a1888d145e38a210dd6", func := "loop.example/rotorciphers/laws.FnSortBook", spec := "fnSortBook", inPlace := ["internal/bytealg.abigen_runtime_cmpstring"], unfollowed := true, recurses := true, apart := false, narrowed := true }
def FnSortBookUptoSaid : Prop := fnSortBookUptoRow.holds Try.pinned (OpenSpec.upto fnSortBookSpec)

/-- 'laws.FnMergeBooksTurned', WHERE WHAT IT READS IS OF BULK AT MOST 1048576: true; the input reads as it did. -/
def fnMergeBooksTurnedUptoRow : OpenClaim := { program := "ytpkkplpaefogmaa", sum := "7a1a1e346ff94f57c26d0fb3d8eb0d39a4846f4c529f2a1888d145e38a210dd6", func := "loop.example/rotorciphers/laws.FnMergeBooksTurned", spec := "fnMergeBooksTurned", inPlace := ["internal/bytealg.abigen_runtime_cmpstring"], unfollowed := true, recurses := true, apart := false, narrowed := true }
def FnMergeBooksTurnedUptoSaid : Prop := fnMergeBooksTurnedUptoRow.holds Try.pinned (OpenSpec.upto fnMergeBooksTurnedSpec)

/-- 'laws.FnSortLookup', WHERE WHAT IT READS IS OF BULK AT MOST 1048576: true; the input reads as it did. -/
def fnSortLookupUptoRow : OpenClaim := { program := "ytpkkplpaefogmaa", sum := "7a1a1e346ff94f57c26d0fb3d8eb0d39a4846f4c529f2a1888d145e38a210dd6", func := "loop.example/rotorciphers/laws.FnSortLookup", spec := "fnSortLookup", inPlace := ["internal/abi.NoEscape", "internal/bytealg.abigen_runtime_cmpstring"], unfollowed := true, recurses := true, apart := false, narrowed := true }
def FnSortLookupUptoSaid : Prop := fnSortLookupUptoRow.holds Try.pinned (OpenSpec.upto fnSortLookupSpec)

end Rows
end Go.Proofs.Ytpkkplpaefogmaa
