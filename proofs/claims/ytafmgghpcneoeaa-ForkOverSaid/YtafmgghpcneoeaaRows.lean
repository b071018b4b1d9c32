/-
  No cell of these rows narrows 'for every input' (looked for: loops, veiled, ifaces, maps, wideKeys, modest, calm, conditions, laid).
  DERIVED. THE GIVEN ROWS OF THIS SEAT. 10 by the template 'for every input the law returns true; each argument reads behind the call as it read before'; 0 by the template 'total and deterministic' (their statements: YtafmgghpcneoeaaTotals.lean).
  GIVEN WITH THE SEED: the statements are not yours to turn. If you find one false, say at which input.
  Laid BY PROGRAM, IN A SANDBOX (cutbox-rows.mjs): the forced cells as the released guide's own fill.sh prints them over the translation 345a37e3582addbd… (all of the seat's roots in one cut). By AI agents, Wed Nov 11 2026. No macro, syntax, notation, axiom, sorry.
-/
import Derived.Test.YtafmgghpcneoeaaChecked
import GoSem.Claim
import GoSem.ClaimJoined
import GoSem.ClaimMapViews
import Derived.JoinedTies
import Derived.KernelRfl
namespace Go.Proofs.Ytafmgghpcneoeaa
/- THE CELL 'sum', in the pinned program and in every row, IS THE sha256 OF THE DUMP (.gsa) THAT YtafmgghpcneoeaaProg.lean LOADS. Nothing in Lean hashes anything: it is a label: what it is worth is what the hold of that sum in a sandbox is worth. -/
noncomputable def Try.pinned : Pinned := { name := "ytafmgghpcneoeaa", sum := "345a37e3582addbd0965b40c8a5ee9aaf75fc07c388433b09a6ca1f9a1e22b4f", checked := Try.checked }
namespace Rows
def none {H : Type} : Left H := { results := [], args := [] }

/-- 'smithylaw15.ForkWays': WHATEVER THE INPUT: true; the input reads as it did. -/
def forkWaysSpec : ChangeSpec := { name := "forkWays", fn := fun _ => fun
  | [d1, d2, d3] => { results := [.lit (.bool true)], args := [d1, d2, d3] }
  | _ => none }
def forkWaysRow : OpenClaim := { program := "ytafmgghpcneoeaa", sum := "345a37e3582addbd0965b40c8a5ee9aaf75fc07c388433b09a6ca1f9a1e22b4f", func := "smithy/smithylaw15.ForkWays", spec := "forkWays", plainKeys := false, apart := false }
def ForkWaysSaid : Prop := forkWaysRow.holds Try.pinned (OpenSpec.ofChange forkWaysSpec)

/-- ITS FALSE NEIGHBOUR: 'it returns false'. Refute it at one input. -/
def forkWaysWrong : ChangeSpec := { name := "forkWays", fn := fun _ => fun
  | [d1, d2, d3] => { results := [.lit (.bool false)], args := [d1, d2, d3] }
  | _ => none }
def ForkWaysWrongFalsely : Prop := forkWaysRow.holds Try.pinned (OpenSpec.ofChange forkWaysWrong)

/-- 'smithylaw15.ForkOver': WHATEVER THE INPUT: true; the input reads as it did. -/
def forkOverSpec : ChangeSpec := { name := "forkOver", fn := fun _ => fun
  | [d1, d2, d3] => { results := [.lit (.bool true)], args := [d1, d2, d3] }
  | _ => none }
def forkOverRow : OpenClaim := { program := "ytafmgghpcneoeaa", sum := "345a37e3582addbd0965b40c8a5ee9aaf75fc07c388433b09a6ca1f9a1e22b4f", func := "smithy/smithylaw15.ForkOver", spec := "forkOver", unfollowed := true, recurses := true, plainKeys := false, apart := false }
def ForkOverSaid : Prop := forkOverRow.holds Try.pinned (OpenSpec.ofChange forkOverSpec)

/-- ITS FALSE NEIGHBOUR: 'it returns false'. Refute it at one input. -/
def forkOverWrong : ChangeSpec := { name := "forkOver", fn := fun _ => fun
  | [d1, d2, d3] => { results := [.lit (.bool false)], args := [d1, d2, d3] }
  | _ => none }
def ForkOverWrongFalsely : Prop := forkOverRow.holds Try.pinned (OpenSpec.ofChange forkOverWrong)

/-- 'smithylaw15.ForkPlays': WHATEVER THE INPUT: true; the input reads as it did. -/
def forkPlaysSpec : ChangeSpec := { name := "forkPlays", fn := fun _ => fun
  | [d] => { results := [.lit (.bool true)], args := [d] }
  | _ => none }
def forkPlaysRow : OpenClaim := { program := "ytafmgghpcneoeaa", sum := "345a37e3582addbd0965b40c8a5ee9aaf75fc07c388433b09a6ca1f9a1e22b4f", func := "smithy/smithylaw15.ForkPlays", spec := "forkPlays", inPlace := ["internal/bytealg.Compare"], unfollowed := true, recurses := true, plainKeys := false, apart := false }
def ForkPlaysSaid : Prop := forkPlaysRow.holds Try.pinned (OpenSpec.ofChange forkPlaysSpec)

/-- ITS FALSE NEIGHBOUR: 'it returns false'. Refute it at one input. -/
def forkPlaysWrong : ChangeSpec := { name := "forkPlays", fn := fun _ => fun
  | [d] => { results := [.lit (.bool false)], args := [d] }
  | _ => none }
def ForkPlaysWrongFalsely : Prop := forkPlaysRow.holds Try.pinned (OpenSpec.ofChange forkPlaysWrong)

/-- 'smithylaw15.ForkNil': WHATEVER THE INPUT: true; the input reads as it did. -/
def forkNilSpec : ChangeSpec := { name := "forkNil", fn := fun _ => fun
  | [d] => { results := [.lit (.bool true)], args := [d] }
  | _ => none }
def forkNilRow : OpenClaim := { program := "ytafmgghpcneoeaa", sum := "345a37e3582addbd0965b40c8a5ee9aaf75fc07c388433b09a6ca1f9a1e22b4f", func := "smithy/smithylaw15.ForkNil", spec := "forkNil", inPlace := ["internal/bytealg.Compare"], unfollowed := true, recurses := true, plainKeys := false, apart := false }
def ForkNilSaid : Prop := forkNilRow.holds Try.pinned (OpenSpec.ofChange forkNilSpec)

/-- ITS FALSE NEIGHBOUR: 'it returns false'. Refute it at one input. -/
def forkNilWrong : ChangeSpec := { name := "forkNil", fn := fun _ => fun
  | [d] => { results := [.lit (.bool false)], args := [d] }
  | _ => none }
def ForkNilWrongFalsely : Prop := forkNilRow.holds Try.pinned (OpenSpec.ofChange forkNilWrong)

/-- 'smithylaw13.StoreNever': WHATEVER THE INPUT: true; the input reads as it did. -/
def storeNeverSpec : ChangeSpec := { name := "storeNever", fn := fun _ => fun
  | [d1, d2] => { results := [.lit (.bool true)], args := [d1, d2] }
  | _ => none }
def storeNeverRow : OpenClaim := { program := "ytafmgghpcneoeaa", sum := "345a37e3582addbd0965b40c8a5ee9aaf75fc07c388433b09a6ca1f9a1e22b4f", func := "smithy/smithylaw13.StoreNever", spec := "storeNever", inPlace := ["internal/bytealg.Compare"], unfollowed := true, recurses := true, plainKeys := false, apart := false }
def StoreNeverSaid : Prop := storeNeverRow.holds Try.pinned (OpenSpec.ofChange storeNeverSpec)

/-- ITS FALSE NEIGHBOUR: 'it returns false'. Refute it at one input. -/
def storeNeverWrong : ChangeSpec := { name := "storeNever", fn := fun _ => fun
  | [d1, d2] => { results := [.lit (.bool false)], args := [d1, d2] }
  | _ => none }
def StoreNeverWrongFalsely : Prop := storeNeverRow.holds Try.pinned (OpenSpec.ofChange storeNeverWrong)

/-- 'smithylaw13.StoreSame': WHATEVER THE INPUT: true; the input reads as it did. -/
def storeSameSpec : ChangeSpec := { name := "storeSame", fn := fun _ => fun
  | [d1, d2] => { results := [.lit (.bool true)], args := [d1, d2] }
  | _ => none }
def storeSameRow : OpenClaim := { program := "ytafmgghpcneoeaa", sum := "345a37e3582addbd0965b40c8a5ee9aaf75fc07c388433b09a6ca1f9a1e22b4f", func := "smithy/smithylaw13.StoreSame", spec := "storeSame", inPlace := ["internal/bytealg.Compare"], unfollowed := true, recurses := true, plainKeys := false, apart := false }
def StoreSameSaid : Prop := storeSameRow.holds Try.pinned (OpenSpec.ofChange storeSameSpec)

/-- ITS FALSE NEIGHBOUR: 'it returns false'. Refute it at one input. -/
def storeSameWrong : ChangeSpec := { name := "storeSame", fn := fun _ => fun
  | [d1, d2] => { results := [.lit (.bool false)], args := [d1, d2] }
  | _ => none }
def StoreSameWrongFalsely : Prop := storeSameRow.holds Try.pinned (OpenSpec.ofChange storeSameWrong)

/-- 'smithylaw13.StorePlays': WHATEVER THE INPUT: true; the input reads as it did. -/
def storePlaysSpec : ChangeSpec := { name := "storePlays", fn := fun _ => fun
  | [d1, d2, d3] => { results := [.lit (.bool true)], args := [d1, d2, d3] }
  | _ => none }
def storePlaysRow : OpenClaim := { program := "ytafmgghpcneoeaa", sum := "345a37e3582addbd0965b40c8a5ee9aaf75fc07c388433b09a6ca1f9a1e22b4f", func := "smithy/smithylaw13.StorePlays", spec := "storePlays", inPlace := ["internal/bytealg.Compare"], unfollowed := true, recurses := true, plainKeys := false, apart := false }
def StorePlaysSaid : Prop := storePlaysRow.holds Try.pinned (OpenSpec.ofChange storePlaysSpec)

/-- ITS FALSE NEIGHBOUR: 'it returns false'. Refute it at one input. -/
def storePlaysWrong : ChangeSpec := { name := "storePlays", fn := fun _ => fun
  | [d1, d2, d3] => { results := [.lit (.bool false)], args := [d1, d2, d3] }
  | _ => none }
def StorePlaysWrongFalsely : Prop := storePlaysRow.holds Try.pinned (OpenSpec.ofChange storePlaysWrong)

/-- 'smithylaw14.StateMissing': WHATEVER THE INPUT: true; the input reads as it did. -/
def stateMissingSpec : ChangeSpec := { name := "stateMissing", fn := fun _ => fun
  | [d1, d2] => { results := [.lit (.bool true)], args := [d1, d2] }
  | _ => none }
def stateMissingRow : OpenClaim := { program := "ytafmgghpcneoeaa", sum := "345a37e3582addbd0965b40c8a5ee9aaf75fc07c388433b09a6ca1f9a1e22b4f", func := "smithy/smithylaw14.StateMissing", spec := "stateMissing", unfollowed := true, recurses := true, plainKeys := false, apart := false }
def StateMissingSaid : Prop := stateMissingRow.holds Try.pinned (OpenSpec.ofChange stateMissingSpec)

/-- ITS FALSE NEIGHBOUR: 'it returns false'. Refute it at one input. -/
def stateMissingWrong : ChangeSpec := { name := "stateMissing", fn := fun _ => fun
  | [d1, d2] => { results := [.lit (.bool false)], args := [d1, d2] }
  | _ => none }
def StateMissingWrongFalsely : Prop := stateMissingRow.holds Try.pinned (OpenSpec.ofChange stateMissingWrong)

/-- 'smithylaw14.StateOwn': WHATEVER THE INPUT: true; the input reads as it did. -/
def stateOwnSpec : ChangeSpec := { name := "stateOwn", fn := fun _ => fun
  | [d1, d2, d3, d4] => { results := [.lit (.bool true)], args := [d1, d2, d3, d4] }
  | _ => none }
def stateOwnRow : OpenClaim := { program := "ytafmgghpcneoeaa", sum := "345a37e3582addbd0965b40c8a5ee9aaf75fc07c388433b09a6ca1f9a1e22b4f", func := "smithy/smithylaw14.StateOwn", spec := "stateOwn", inPlace := ["internal/bytealg.Compare"], unfollowed := true, recurses := true, plainKeys := false, apart := false }
def StateOwnSaid : Prop := stateOwnRow.holds Try.pinned (OpenSpec.ofChange stateOwnSpec)

/-- ITS FALSE NEIGHBOUR: 'it returns false'. Refute it at one input. -/
def stateOwnWrong : ChangeSpec := { name := "stateOwn", fn := fun _ => fun
  | [d1, d2, d3, d4] => { results := [.lit (.bool false)], args := [d1, d2, d3, d4] }
  | _ => none }
def StateOwnWrongFalsely : Prop := stateOwnRow.holds Try.pinned (OpenSpec.ofChange stateOwnWrong)

/-- 'smithylaw19.TxEnough': WHATEVER THE INPUT: true; the input reads as it did. -/
def txEnoughSpec : ChangeSpec := { name := "txEnough", fn := fun _ => fun
  | [d1, d2, d3, d4] => { results := [.lit (.bool true)], args := [d1, d2, d3, d4] }
  | _ => none }
def txEnoughRow : OpenClaim := { program := "ytafmgghpcneoeaa", sum := "345a37e3582addbd0965b40c8a5ee9aaf75fc07c388433b09a6ca1f9a1e22b4f", func := "smithy/smithylaw19.TxEnough", spec := "txEnough", inPlace := ["math/bits.Add64", "math/bits.Sub64"], unfollowed := true, recurses := true, plainKeys := false, apart := false }
def TxEnoughSaid : Prop := txEnoughRow.holds Try.pinned (OpenSpec.ofChange txEnoughSpec)

/-- ITS FALSE NEIGHBOUR: 'it returns false'. Refute it at one input. -/
def txEnoughWrong : ChangeSpec := { name := "txEnough", fn := fun _ => fun
  | [d1, d2, d3, d4] => { results := [.lit (.bool false)], args := [d1, d2, d3, d4] }
  | _ => none }
def TxEnoughWrongFalsely : Prop := txEnoughRow.holds Try.pinned (OpenSpec.ofChange txEnoughWrong)

/- THE SECOND FORM. 'bulk': how many values and letters a reading holds, each counted each time it is reached (what is shared counts as often as it is met; a slice's spare places count too). A statement '..UptoSaid' is the law's where the arguments, and the package variables that the reading takes, are together of bulk at most 1048576: NARROWER than '..Said'. Prove '..Said' where nothing that the law and all that it calls make is longer than what came in: it says more and counts as full. Else prove '..UptoSaid'. A law counts once. -/
mutual
def uptoBulk {H : Type} : DataW H → Nat
  | .lit (.string bytes) => bytes.length + 1
  | .lit _ => 1
  | .nil => 1
  | .ptr d => uptoBulk d + 1
  | .slice elems spare => uptoBulkAll elems + uptoBulkAll spare + 1
  | .agg parts => uptoBulkAll parts + 1
  | .iface _ d => uptoBulk d + 1
  | .map entries => uptoBulkEntries entries + 1
  | .held _ => 1
def uptoBulkAll {H : Type} : List (DataW H) → Nat
  | [] => 0
  | d :: r => uptoBulk d + uptoBulkAll r
def uptoBulkEntries {H : Type} : List (Lit × DataW H) → Nat
  | [] => 0
  | x :: r => uptoBulkEntry x + uptoBulkEntries r
def uptoBulkEntry {H : Type} : Lit × DataW H → Nat
  | (.string bytes, d) => bytes.length + uptoBulk d + 1
  | (_, d) => uptoBulk d + 1
 end
def uptoSmall : (H : Type) → List (DataW H) → Bool := fun _ ds => decide (uptoBulkAll ds ≤ 1048576)
def OpenSpec.upto (s : _root_.Go.ChangeSpec) : _root_.Go.OpenSpec := { _root_.Go.OpenSpec.ofChange s with cond := some uptoSmall }

/-- 'smithylaw15.ForkWays', WHERE WHAT IT READS IS OF BULK AT MOST 1048576: true; the input reads as it did. -/
def forkWaysUptoRow : OpenClaim := { program := "ytafmgghpcneoeaa", sum := "345a37e3582addbd0965b40c8a5ee9aaf75fc07c388433b09a6ca1f9a1e22b4f", func := "smithy/smithylaw15.ForkWays", spec := "forkWays", plainKeys := false, apart := false, narrowed := true }
def ForkWaysUptoSaid : Prop := forkWaysUptoRow.holds Try.pinned (OpenSpec.upto forkWaysSpec)

/-- 'smithylaw15.ForkOver', WHERE WHAT IT READS IS OF BULK AT MOST 1048576: true; the input reads as it did. -/
def forkOverUptoRow : OpenClaim := { program := "ytafmgghpcneoeaa", sum := "345a37e3582addbd0965b40c8a5ee9aaf75fc07c388433b09a6ca1f9a1e22b4f", func := "smithy/smithylaw15.ForkOver", spec := "forkOver", unfollowed := true, recurses := true, plainKeys := false, apart := false, narrowed := true }
def ForkOverUptoSaid : Prop := forkOverUptoRow.holds Try.pinned (OpenSpec.upto forkOverSpec)

/-- 'smithylaw15.ForkPlays', WHERE WHAT IT READS IS OF BULK AT MOST 1048576: true; the input reads as it did. -/
def forkPlaysUptoRow : OpenClaim := { program := "ytafmgghpcneoeaa", sum := "345a37e3582addbd0965b40c8a5ee9aaf75fc07c388433b09a6ca1f9a1e22b4f", func := "smithy/smithylaw15.ForkPlays", spec := "forkPlays", inPlace := ["internal/bytealg.Compare"], unfollowed := true, recurses := true, plainKeys := false, apart := false, narrowed := true }
def ForkPlaysUptoSaid : Prop := forkPlaysUptoRow.holds Try.pinned (OpenSpec.upto forkPlaysSpec)

/-- 'smithylaw15.ForkNil', WHERE WHAT IT READS IS OF BULK AT MOST 1048576: true; the input reads as it did. -/
def forkNilUptoRow : OpenClaim := { program := "ytafmgghpcneoeaa", sum := "345a37e3582addbd0965b40c8a5ee9aaf75fc07c388433b09a6ca1f9a1e22b4f", func := "smithy/smithylaw15.ForkNil", spec := "forkNil", inPlace := ["internal/bytealg.Compare"], unfollowed := true, recurses := true, plainKeys := false, apart := false, narrowed := true }
def ForkNilUptoSaid : Prop := forkNilUptoRow.holds Try.pinned (OpenSpec.upto forkNilSpec)

/-- 'smithylaw13.StoreNever', WHERE WHAT IT READS IS OF BULK AT MOST 1048576: true; the input reads as it did. -/
def storeNeverUptoRow : OpenClaim := { program := "ytafmgghpcneoeaa", sum := "345a37e3582addbd0965b40c8a5ee9aaf75fc07c388433b09a6ca1f9a1e22b4f", func := "smithy/smithylaw13.StoreNever", spec := "storeNever", inPlace := ["internal/bytealg.Compare"], unfollowed := true, recurses := true, plainKeys := false, apart := false, narrowed := true }
def StoreNeverUptoSaid : Prop := storeNeverUptoRow.holds Try.pinned (OpenSpec.upto storeNeverSpec)

/-- 'smithylaw13.StoreSame', WHERE WHAT IT READS IS OF BULK AT MOST 1048576: true; the input reads as it did. -/
def storeSameUptoRow : OpenClaim := { program := "ytafmgghpcneoeaa", sum := "345a37e3582addbd0965b40c8a5ee9aaf75fc07c388433b09a6ca1f9a1e22b4f", func := "smithy/smithylaw13.StoreSame", spec := "storeSame", inPlace := ["internal/bytealg.Compare"], unfollowed := true, recurses := true, plainKeys := false, apart := false, narrowed := true }
def StoreSameUptoSaid : Prop := storeSameUptoRow.holds Try.pinned (OpenSpec.upto storeSameSpec)

/-- 'smithylaw13.StorePlays', WHERE WHAT IT READS IS OF BULK AT MOST 1048576: true; the input reads as it did. -/
def storePlaysUptoRow : OpenClaim := { program := "ytafmgghpcneoeaa", sum := "345a37e3582addbd0965b40c8a5ee9aaf75fc07c388433b09a6ca1f9a1e22b4f", func := "smithy/smithylaw13.StorePlays", spec := "storePlays", inPlace := ["internal/bytealg.Compare"], unfollowed := true, recurses := true, plainKeys := false, apart := false, narrowed := true }
def StorePlaysUptoSaid : Prop := storePlaysUptoRow.holds Try.pinned (OpenSpec.upto storePlaysSpec)

/-- 'smithylaw14.StateMissing', WHERE WHAT IT READS IS OF BULK AT MOST 1048576: true; the input reads as it did. -/
def stateMissingUptoRow : OpenClaim := { program := "ytafmgghpcneoeaa", sum := "345a37e3582addbd0965b40c8a5ee9aaf75fc07c388433b09a6ca1f9a1e22b4f", func := "smithy/smithylaw14.StateMissing", spec := "stateMissing", unfollowed := true, recurses := true, plainKeys := false, apart := false, narrowed := true }
def StateMissingUptoSaid : Prop := stateMissingUptoRow.holds Try.pinned (OpenSpec.upto stateMissingSpec)

/-- 'smithylaw14.StateOwn', WHERE WHAT IT READS IS OF BULK AT MOST 1048576: true; the input reads as it did. -/
def stateOwnUptoRow : OpenClaim := { program := "ytafmgghpcneoeaa", sum := "345a37e3582addbd0965b40c8a5ee9aaf75fc07c388433b09a6ca1f9a1e22b4f", func := "smithy/smithylaw14.StateOwn", spec := "stateOwn", inPlace := ["internal/bytealg.Compare"], unfollowed := true, recurses := true, plainKeys := false, apart := false, narrowed := true }
def StateOwnUptoSaid : Prop := stateOwnUptoRow.holds Try.pinned (OpenSpec.upto stateOwnSpec)

/-- 'smithylaw19.TxEnough', WHERE WHAT IT READS IS OF BULK AT MOST 1048576: true; the input reads as it did. -/
def txEnoughUptoRow : OpenClaim := { program := "ytafmgghpcneoeaa", sum := "345a37e3582addbd0965b40c8a5ee9aaf75fc07c388433b09a6ca1f9a1e22b4f", func := "smithy/smithylaw19.TxEnough", spec := "txEnough", inPlace := ["math/bits.Add64", "math/bits.Sub64"], unfollowed := true, recurses := true, plainKeys := false, apart := false, narrowed := true }
def TxEnoughUptoSaid : Prop := txEnoughUptoRow.holds Try.pinned (OpenSpec.upto txEnoughSpec)

end Rows
end Go.Proofs.Ytafmgghpcneoeaa
