/-
  No cell of these rows narrows 'for every input' (looked for: loops, veiled, ifaces, maps, wideKeys, modest, calm, conditions, laid).
  DERIVED. THE GIVEN ROWS OF THIS SEAT. 3 by the template 'for every input the law returns true; each argument reads behind the call as it read before'; 0 by the template 'total and deterministic' (their statements: YtflbfdmmfoigaaaGreatTotals.lean).
  GIVEN WITH THE SEED: the statements are not yours to turn. If you find one false, say at which input.
  Laid BY PROGRAM, IN A SANDBOX (cutbox-rows.mjs): the forced cells as the released guide's own fill.sh prints them over the translation 9d80be7a7a971a72… (all of the seat's roots in one cut). By AI agents, Wed Nov 11 2026. No macro, syntax, notation, axiom, sorry.
-/
import Derived.Test.YtflbfdmmfoigaaaGreatChecked
import GoSem.Claim
import GoSem.ClaimJoined
import GoSem.ClaimMapViews
import Derived.JoinedTies
import Derived.KernelRfl
namespace Go.Proofs.YtflbfdmmfoigaaaGreat
/- THE CELL 'sum', in the pinned program and in every row, IS THE sha256 OF THE DUMP (.gsa) THAT YtflbfdmmfoigaaaGreatProg.lean LOADS. Nothing in Lean hashes anything: it is a label: what it is worth is what the hold of that sum in a sandbox is worth. -/
noncomputable def Tryz.pinned : Pinned := { name := "ytflbfdmmfoigaaagreat", sum := "9d80be7a7a971a728bbe30a53798efbdb9fbeaff5e66634e95fa5810b474613d", checked := Tryz.checked }
namespace Rows
def none {H : Type} : Left H := { results := [], args := [] }

/-- 'haycroftlaw15.HlogNil': WHATEVER THE INPUT: true; the input reads as it did. -/
def hlogNilSpec : ChangeSpec := { name := "hlogNil", fn := fun _ => fun
  | [d1, d2] => { results := [.lit (.bool true)], args := [d1, d2] }
  | _ => none }
def hlogNilRow : OpenClaim := { program := "ytflbfdmmfoigaaagreat", sum := "9d80be7a7a971a728bbe30a53798efbdb9fbeaff5e66634e95fa5810b474613d", func := "haycroft/haycroftlaw15.HlogNil", spec := "hlogNil", inPlace := ["sync/atomic.StoreUint64", "sync/atomic.LoadUint64", "sync/atomic.CompareAndSwapUint64", "sync/atomic.AddInt64", "sync/atomic.AddUint64"], unfollowed := true, recurses := true, plainKeys := false, apart := false }
def HlogNilSaid : Prop := hlogNilRow.holds Tryz.pinned (OpenSpec.ofChange hlogNilSpec)

/-- ITS FALSE NEIGHBOUR: 'it returns false'. Refute it at one input. -/
def hlogNilWrong : ChangeSpec := { name := "hlogNil", fn := fun _ => fun
  | [d1, d2] => { results := [.lit (.bool false)], args := [d1, d2] }
  | _ => none }
def HlogNilWrongFalsely : Prop := hlogNilRow.holds Tryz.pinned (OpenSpec.ofChange hlogNilWrong)

/-- 'haycroftlaw15.HlogGuards': WHATEVER THE INPUT: true; the input reads as it did. -/
def hlogGuardsSpec : ChangeSpec := { name := "hlogGuards", fn := fun _ => fun
  | [d1, d2] => { results := [.lit (.bool true)], args := [d1, d2] }
  | _ => none }
def hlogGuardsRow : OpenClaim := { program := "ytflbfdmmfoigaaagreat", sum := "9d80be7a7a971a728bbe30a53798efbdb9fbeaff5e66634e95fa5810b474613d", func := "haycroft/haycroftlaw15.HlogGuards", spec := "hlogGuards", inPlace := ["sync/atomic.StoreUint64", "sync/atomic.LoadUint64", "sync/atomic.CompareAndSwapUint64", "sync/atomic.AddInt64", "sync/atomic.AddUint64"], unfollowed := true, recurses := true, plainKeys := false, apart := false }
def HlogGuardsSaid : Prop := hlogGuardsRow.holds Tryz.pinned (OpenSpec.ofChange hlogGuardsSpec)

/-- ITS FALSE NEIGHBOUR: 'it returns false'. Refute it at one input. -/
def hlogGuardsWrong : ChangeSpec := { name := "hlogGuards", fn := fun _ => fun
  | [d1, d2] => { results := [.lit (.bool false)], args := [d1, d2] }
  | _ => none }
def HlogGuardsWrongFalsely : Prop := hlogGuardsRow.holds Tryz.pinned (OpenSpec.ofChange hlogGuardsWrong)

/-- 'haycroftlaw15.HlogFlushes': WHATEVER THE INPUT: true; the input reads as it did. -/
def hlogFlushesSpec : ChangeSpec := { name := "hlogFlushes", fn := fun _ => fun
  | [d1, d2] => { results := [.lit (.bool true)], args := [d1, d2] }
  | _ => none }
def hlogFlushesRow : OpenClaim := { program := "ytflbfdmmfoigaaagreat", sum := "9d80be7a7a971a728bbe30a53798efbdb9fbeaff5e66634e95fa5810b474613d", func := "haycroft/haycroftlaw15.HlogFlushes", spec := "hlogFlushes", inPlace := ["sync/atomic.StoreUint64", "sync/atomic.LoadUint64", "sync/atomic.CompareAndSwapUint64", "sync/atomic.AddInt64", "sync/atomic.AddUint64"], unfollowed := true, recurses := true, plainKeys := false, apart := false }
def HlogFlushesSaid : Prop := hlogFlushesRow.holds Tryz.pinned (OpenSpec.ofChange hlogFlushesSpec)

/-- ITS FALSE NEIGHBOUR: 'it returns false'. Refute it at one input. -/
def hlogFlushesWrong : ChangeSpec := { name := "hlogFlushes", fn := fun _ => fun
  | [d1, d2] => { results := [.lit (.bool false)], args := [d1, d2] }
  | _ => none }
def HlogFlushesWrongFalsely : Prop := hlogFlushesRow.holds Tryz.pinned (OpenSpec.ofChange hlogFlushesWrong)

/- THE SECOND FORM. 'bulk': how many values and letters a reading holds, each counted each time it is reached (what is shared counts as often as it is met; a slice's spare places count too). A statement '..UptoSaid' is the law's where the arguments, and the package variables that the reading takes, are together of bulk at most 1048576: NARROWER than '..Said'. Prove '..Said' where nothing that the law and all that it calls make is longer than what came in: it says more and counts as full. Else prove '..UptoSaid'. A law counts once. -/
mutual
def uptoBulk {H : Type} : DataW H → Nat
  | .lit (.string bytes) => bytes.length + 1
  | .lit _ => 1
  | .nil => 1
  | .ptr d => uptoBulk d + 1
  | .slice elems spare => uptoBulkAll elems + uptoBulkAll spare + 1
  | .agg parts => uptoBulkAll parts + 1
  | .iface _ d => uptoBulk d + 1
  | .map entries => uptoBulkEntries entries + 1
  | .held _ => 1
def uptoBulkAll {H : Type} : List (DataW H) → Nat
  | [] => 0
  | d :: r => uptoBulk d + uptoBulkAll r
def uptoBulkEntries {H : Type} : List (Lit × DataW H) → Nat
  | [] => 0
  | x :: r => uptoBulkEntry x + uptoBulkEntries r
def uptoBulkEntry {H : Type} : Lit × DataW H → Nat
  | (.string bytes, d) => bytes.length + uptoBulk d + 1
  | (_, d) => uptoBulk d + 1
 end
def uptoSmall : (H : Type) → List (DataW H) → Bool := fun _ ds => decide (uptoBulkAll ds ≤ 1048576)
def OpenSpec.upto (s : _root_.Go.ChangeSpec) : _root_.Go.OpenSpec := { _root_.Go.OpenSpec.ofChange s with cond := some uptoSmall }

/-- 'haycroftlaw15.HlogNil', WHERE WHAT IT READS IS OF BULK AT MOST 1048576: true; the input reads as it did. -/
def hlogNilUptoRow : OpenClaim := { program := "ytflbfdmmfoigaaagreat", sum := "9d80be7a7a971a728bbe30a53798efbdb9fbeaff5e66634e95fa5810b474613d", func := "haycroft/haycroftlaw15.HlogNil", spec := "hlogNil", inPlace := ["sync/atomic.StoreUint64", "sync/atomic.LoadUint64", "sync/atomic.CompareAndSwapUint64", "sync/atomic.AddInt64", "sync/atomic.AddUint64"], unfollowed := true, recurses := true, plainKeys := false, apart := false, narrowed := true }
def HlogNilUptoSaid : Prop := hlogNilUptoRow.holds Tryz.pinned (OpenSpec.upto hlogNilSpec)

/-- 'haycroftlaw15.HlogGuards', WHERE WHAT IT READS IS OF BULK AT MOST 1048576: true; the input reads as it did. -/
def hlogGuardsUptoRow : OpenClaim := { program := "ytflbfdmmfoigaaagreat", sum := "9d80be7a7a971a728bbe30a53798efbdb9fbeaff5e66634e95fa5810b474613d", func := "haycroft/haycroftlaw15.HlogGuards", spec := "hlogGuards", inPlace := ["sync/atomic.StoreUint64", "sync/atomic.LoadUint64", "sync/atomic.CompareAndSwapUint64", "sync/atomic.AddInt64", "sync/atomic.AddUint64"], unfollowed := true, recurses := true, plainKeys := false, apart := false, narrowed := true }
def HlogGuardsUptoSaid : Prop := hlogGuardsUptoRow.holds Tryz.pinned (OpenSpec.upto hlogGuardsSpec)

/-- 'haycroftlaw15.HlogFlushes', WHERE WHAT IT READS IS OF BULK AT MOST 1048576: true; the input reads as it did. -/
def hlogFlushesUptoRow : OpenClaim := { program := "ytflbfdmmfoigaaagreat", sum := "9d80be7a7a971a728bbe30a53798efbdb9fbeaff5e66634e95fa5810b474613d", func := "haycroft/haycroftlaw15.HlogFlushes", spec := "hlogFlushes", inPlace := ["sync/atomic.StoreUint64", "sync/atomic.LoadUint64", "sync/atomic.CompareAndSwapUint64", "sync/atomic.AddInt64", "sync/atomic.AddUint64"], unfollowed := true, recurses := true, plainKeys := false, apart := false, narrowed := true }
def HlogFlushesUptoSaid : Prop := hlogFlushesUptoRow.holds Tryz.pinned (OpenSpec.upto hlogFlushesSpec)

end Rows
end Go.Proofs.YtflbfdmmfoigaaaGreat
