/-
  No cell of these rows narrows 'for every input' (looked for: loops, veiled, ifaces, maps, wideKeys, modest, calm, conditions, laid).
  DERIVED. THE GIVEN ROWS OF THIS SEAT. 11 by the template 'for every input the law returns true; each argument reads behind the call as it read before'; 0 by the template 'total and deterministic' (their statements: YtbinpajhmnfhoaaTotals.lean).
  GIVEN WITH THE SEED: the statements are not yours to turn. If you find one false, say at which input.
  Laid BY PROGRAM, IN A SANDBOX (cutbox-rows.mjs): the forced cells as the released guide's own fill.sh prints them over the translation 8cc9271d637c2469… (all of the seat's roots in one cut). By AI agents, Wed Nov 11 2026. No macro, syntax, notation, axiom, sorry.
-/
import Derived.Test.YtbinpajhmnfhoaaChecked
import GoSem.Claim
import GoSem.ClaimJoined
import GoSem.ClaimMapViews
import Derived.JoinedTies
import Derived.KernelRfl
namespace Go.Proofs.Ytbinpajhmnfhoaa
/- THE CELL 'sum', in the pinned program and in every row, IS THE sha256 OF THE DUMP (.gsa) THAT YtbinpajhmnfhoaaProg.lean LOADS. Nothing in Lean hashes anything: it is a label: what it is worth is what the hold of that sum in a sandbox is worth. -/
noncomputable def Try.pinned : Pinned := { name := "ytbinpajhmnfhoaa", sum := "8cc9271d637c2469e9ff0cc466bb60530852efaca7bb4d972c40d1247cd44c6f", checked := Try.checked }
namespace Rows
def none {H : Type} : Left H := { results := [], args := [] }

/-- 'haycroftlaw05.CellOnce': WHATEVER THE INPUT: true; the input reads as it did. -/
def cellOnceSpec : ChangeSpec := { name := "cellOnce", fn := fun _ => fun
  | [d1, d2, d3] => { results := [.lit (.bool true)], args := [d1, d2, d3] }
  | _ => none }
def cellOnceRow : OpenClaim := { program := "ytbinpajhmnfhoaa", sum := "8cc9271d637c2469e9ff0cc466bb60530852efaca7bb4d972c40d1247cd44c6f", func := "haycroft/haycroftlaw05.CellOnce", spec := "cellOnce", inPlace := ["sync/atomic.CompareAndSwapUint64", "sync/atomic.AddInt64", "sync/atomic.LoadInt64", "sync/atomic.LoadUint64", "sync/atomic.StoreUint64"], apart := false }
def CellOnceSaid : Prop := cellOnceRow.holds Try.pinned (OpenSpec.ofChange cellOnceSpec)

/-- ITS FALSE NEIGHBOUR: 'it returns false'. Refute it at one input. -/
def cellOnceWrong : ChangeSpec := { name := "cellOnce", fn := fun _ => fun
  | [d1, d2, d3] => { results := [.lit (.bool false)], args := [d1, d2, d3] }
  | _ => none }
def CellOnceWrongFalsely : Prop := cellOnceRow.holds Try.pinned (OpenSpec.ofChange cellOnceWrong)

/-- 'haycroftlaw08.HeaderPacks': WHATEVER THE INPUT: true; the input reads as it did. -/
def headerPacksSpec : ChangeSpec := { name := "headerPacks", fn := fun _ => fun
  | [d1, d2] => { results := [.lit (.bool true)], args := [d1, d2] }
  | _ => none }
def headerPacksRow : OpenClaim := { program := "ytbinpajhmnfhoaa", sum := "8cc9271d637c2469e9ff0cc466bb60530852efaca7bb4d972c40d1247cd44c6f", func := "haycroft/haycroftlaw08.HeaderPacks", spec := "headerPacks", apart := false }
def HeaderPacksSaid : Prop := headerPacksRow.holds Try.pinned (OpenSpec.ofChange headerPacksSpec)

/-- ITS FALSE NEIGHBOUR: 'it returns false'. Refute it at one input. -/
def headerPacksWrong : ChangeSpec := { name := "headerPacks", fn := fun _ => fun
  | [d1, d2] => { results := [.lit (.bool false)], args := [d1, d2] }
  | _ => none }
def HeaderPacksWrongFalsely : Prop := headerPacksRow.holds Try.pinned (OpenSpec.ofChange headerPacksWrong)

/-- 'haycroftlaw08.HeaderLengths': WHATEVER THE INPUT: true; the input reads as it did. -/
def headerLengthsSpec : ChangeSpec := { name := "headerLengths", fn := fun _ => fun
  | [d1, d2, d3] => { results := [.lit (.bool true)], args := [d1, d2, d3] }
  | _ => none }
def headerLengthsRow : OpenClaim := { program := "ytbinpajhmnfhoaa", sum := "8cc9271d637c2469e9ff0cc466bb60530852efaca7bb4d972c40d1247cd44c6f", func := "haycroft/haycroftlaw08.HeaderLengths", spec := "headerLengths", apart := false }
def HeaderLengthsSaid : Prop := headerLengthsRow.holds Try.pinned (OpenSpec.ofChange headerLengthsSpec)

/-- ITS FALSE NEIGHBOUR: 'it returns false'. Refute it at one input. -/
def headerLengthsWrong : ChangeSpec := { name := "headerLengths", fn := fun _ => fun
  | [d1, d2, d3] => { results := [.lit (.bool false)], args := [d1, d2, d3] }
  | _ => none }
def HeaderLengthsWrongFalsely : Prop := headerLengthsRow.holds Try.pinned (OpenSpec.ofChange headerLengthsWrong)

/-- 'haycroftlaw16.EntryPacks': WHATEVER THE INPUT: true; the input reads as it did. -/
def entryPacksSpec : ChangeSpec := { name := "entryPacks", fn := fun _ => fun
  | [d1, d2] => { results := [.lit (.bool true)], args := [d1, d2] }
  | _ => none }
def entryPacksRow : OpenClaim := { program := "ytbinpajhmnfhoaa", sum := "8cc9271d637c2469e9ff0cc466bb60530852efaca7bb4d972c40d1247cd44c6f", func := "haycroft/haycroftlaw16.EntryPacks", spec := "entryPacks", apart := false }
def EntryPacksSaid : Prop := entryPacksRow.holds Try.pinned (OpenSpec.ofChange entryPacksSpec)

/-- ITS FALSE NEIGHBOUR: 'it returns false'. Refute it at one input. -/
def entryPacksWrong : ChangeSpec := { name := "entryPacks", fn := fun _ => fun
  | [d1, d2] => { results := [.lit (.bool false)], args := [d1, d2] }
  | _ => none }
def EntryPacksWrongFalsely : Prop := entryPacksRow.holds Try.pinned (OpenSpec.ofChange entryPacksWrong)

/-- 'haycroftlaw13.MarksRise': WHATEVER THE INPUT: true; the input reads as it did. -/
def marksRiseSpec : ChangeSpec := { name := "marksRise", fn := fun _ => fun
  | [d1, d2] => { results := [.lit (.bool true)], args := [d1, d2] }
  | _ => none }
def marksRiseRow : OpenClaim := { program := "ytbinpajhmnfhoaa", sum := "8cc9271d637c2469e9ff0cc466bb60530852efaca7bb4d972c40d1247cd44c6f", func := "haycroft/haycroftlaw13.MarksRise", spec := "marksRise", inPlace := ["sync/atomic.LoadUint64", "sync/atomic.StoreUint64"], apart := false }
def MarksRiseSaid : Prop := marksRiseRow.holds Try.pinned (OpenSpec.ofChange marksRiseSpec)

/-- ITS FALSE NEIGHBOUR: 'it returns false'. Refute it at one input. -/
def marksRiseWrong : ChangeSpec := { name := "marksRise", fn := fun _ => fun
  | [d1, d2] => { results := [.lit (.bool false)], args := [d1, d2] }
  | _ => none }
def MarksRiseWrongFalsely : Prop := marksRiseRow.holds Try.pinned (OpenSpec.ofChange marksRiseWrong)

/-- 'haycroftlaw08.HeaderLocks': WHATEVER THE INPUT: true; the input reads as it did. -/
def headerLocksSpec : ChangeSpec := { name := "headerLocks", fn := fun _ => fun
  | [d] => { results := [.lit (.bool true)], args := [d] }
  | _ => none }
def headerLocksRow : OpenClaim := { program := "ytbinpajhmnfhoaa", sum := "8cc9271d637c2469e9ff0cc466bb60530852efaca7bb4d972c40d1247cd44c6f", func := "haycroft/haycroftlaw08.HeaderLocks", spec := "headerLocks", apart := false }
def HeaderLocksSaid : Prop := headerLocksRow.holds Try.pinned (OpenSpec.ofChange headerLocksSpec)

/-- ITS FALSE NEIGHBOUR: 'it returns false'. Refute it at one input. -/
def headerLocksWrong : ChangeSpec := { name := "headerLocks", fn := fun _ => fun
  | [d] => { results := [.lit (.bool false)], args := [d] }
  | _ => none }
def HeaderLocksWrongFalsely : Prop := headerLocksRow.holds Try.pinned (OpenSpec.ofChange headerLocksWrong)

/-- 'haycroftlaw08.HeaderTurns': WHATEVER THE INPUT: true; the input reads as it did. -/
def headerTurnsSpec : ChangeSpec := { name := "headerTurns", fn := fun _ => fun
  | [d] => { results := [.lit (.bool true)], args := [d] }
  | _ => none }
def headerTurnsRow : OpenClaim := { program := "ytbinpajhmnfhoaa", sum := "8cc9271d637c2469e9ff0cc466bb60530852efaca7bb4d972c40d1247cd44c6f", func := "haycroft/haycroftlaw08.HeaderTurns", spec := "headerTurns", apart := false }
def HeaderTurnsSaid : Prop := headerTurnsRow.holds Try.pinned (OpenSpec.ofChange headerTurnsSpec)

/-- ITS FALSE NEIGHBOUR: 'it returns false'. Refute it at one input. -/
def headerTurnsWrong : ChangeSpec := { name := "headerTurns", fn := fun _ => fun
  | [d] => { results := [.lit (.bool false)], args := [d] }
  | _ => none }
def HeaderTurnsWrongFalsely : Prop := headerTurnsRow.holds Try.pinned (OpenSpec.ofChange headerTurnsWrong)

/-- 'haycroftlaw05.CellNil': WHATEVER THE INPUT: true; the input reads as it did. -/
def cellNilSpec : ChangeSpec := { name := "cellNil", fn := fun _ => fun
  | [d] => { results := [.lit (.bool true)], args := [d] }
  | _ => none }
def cellNilRow : OpenClaim := { program := "ytbinpajhmnfhoaa", sum := "8cc9271d637c2469e9ff0cc466bb60530852efaca7bb4d972c40d1247cd44c6f", func := "haycroft/haycroftlaw05.CellNil", spec := "cellNil", inPlace := ["sync/atomic.CompareAndSwapUint64", "sync/atomic.AddInt64", "sync/atomic.LoadInt64", "sync/atomic.LoadUint64", "sync/atomic.AddUint64", "sync/atomic.StoreUint64"], apart := false }
def CellNilSaid : Prop := cellNilRow.holds Try.pinned (OpenSpec.ofChange cellNilSpec)

/-- ITS FALSE NEIGHBOUR: 'it returns false'. Refute it at one input. -/
def cellNilWrong : ChangeSpec := { name := "cellNil", fn := fun _ => fun
  | [d] => { results := [.lit (.bool false)], args := [d] }
  | _ => none }
def CellNilWrongFalsely : Prop := cellNilRow.holds Try.pinned (OpenSpec.ofChange cellNilWrong)

/-- 'haycroftlaw16.EntryTurns': WHATEVER THE INPUT: true; the input reads as it did. -/
def entryTurnsSpec : ChangeSpec := { name := "entryTurns", fn := fun _ => fun
  | [d1, d2, d3] => { results := [.lit (.bool true)], args := [d1, d2, d3] }
  | _ => none }
def entryTurnsRow : OpenClaim := { program := "ytbinpajhmnfhoaa", sum := "8cc9271d637c2469e9ff0cc466bb60530852efaca7bb4d972c40d1247cd44c6f", func := "haycroft/haycroftlaw16.EntryTurns", spec := "entryTurns", apart := false }
def EntryTurnsSaid : Prop := entryTurnsRow.holds Try.pinned (OpenSpec.ofChange entryTurnsSpec)

/-- ITS FALSE NEIGHBOUR: 'it returns false'. Refute it at one input. -/
def entryTurnsWrong : ChangeSpec := { name := "entryTurns", fn := fun _ => fun
  | [d1, d2, d3] => { results := [.lit (.bool false)], args := [d1, d2, d3] }
  | _ => none }
def EntryTurnsWrongFalsely : Prop := entryTurnsRow.holds Try.pinned (OpenSpec.ofChange entryTurnsWrong)

/-- 'haycroftlaw13.MarksPlay': WHATEVER THE INPUT: true; the input reads as it did. -/
def marksPlaySpec : ChangeSpec := { name := "marksPlay", fn := fun _ => fun
  | [d1, d2] => { results := [.lit (.bool true)], args := [d1, d2] }
  | _ => none }
def marksPlayRow : OpenClaim := { program := "ytbinpajhmnfhoaa", sum := "8cc9271d637c2469e9ff0cc466bb60530852efaca7bb4d972c40d1247cd44c6f", func := "haycroft/haycroftlaw13.MarksPlay", spec := "marksPlay", inPlace := ["sync/atomic.LoadUint64", "sync/atomic.StoreUint64"], apart := false }
def MarksPlaySaid : Prop := marksPlayRow.holds Try.pinned (OpenSpec.ofChange marksPlaySpec)

/-- ITS FALSE NEIGHBOUR: 'it returns false'. Refute it at one input. -/
def marksPlayWrong : ChangeSpec := { name := "marksPlay", fn := fun _ => fun
  | [d1, d2] => { results := [.lit (.bool false)], args := [d1, d2] }
  | _ => none }
def MarksPlayWrongFalsely : Prop := marksPlayRow.holds Try.pinned (OpenSpec.ofChange marksPlayWrong)

/-- 'haycroftlaw13.MarksNil': WHATEVER THE INPUT: true; the input reads as it did. -/
def marksNilSpec : ChangeSpec := { name := "marksNil", fn := fun _ => fun
  | [d] => { results := [.lit (.bool true)], args := [d] }
  | _ => none }
def marksNilRow : OpenClaim := { program := "ytbinpajhmnfhoaa", sum := "8cc9271d637c2469e9ff0cc466bb60530852efaca7bb4d972c40d1247cd44c6f", func := "haycroft/haycroftlaw13.MarksNil", spec := "marksNil", inPlace := ["sync/atomic.LoadUint64", "sync/atomic.StoreUint64"], apart := false }
def MarksNilSaid : Prop := marksNilRow.holds Try.pinned (OpenSpec.ofChange marksNilSpec)

/-- ITS FALSE NEIGHBOUR: 'it returns false'. Refute it at one input. -/
def marksNilWrong : ChangeSpec := { name := "marksNil", fn := fun _ => fun
  | [d] => { results := [.lit (.bool false)], args := [d] }
  | _ => none }
def MarksNilWrongFalsely : Prop := marksNilRow.holds Try.pinned (OpenSpec.ofChange marksNilWrong)

/- THE SECOND FORM. 'bulk': how many values and letters a reading holds, each counted each time it is reached (what is shared counts as often as it is met; a slice's spare places count too). A statement '..UptoSaid' is the law's where the arguments, and the package variables that the reading takes, are together of bulk at most 1048576: NARROWER than '..Said'. Prove '..Said' where nothing that the law and all that it calls make is longer than what came in: it says more and counts as full. Else prove '..UptoSaid'. A law counts once. -/
mutual
def uptoBulk {H : Type} : DataW H → Nat
  | .lit (.string bytes) => bytes.length + 1
  | .lit _ => 1
  | .nil => 1
  | .ptr d => uptoBulk d + 1
  | .slice elems spare => uptoBulkAll elems + uptoBulkAll spare + 1
  | .agg parts => uptoBulkAll parts + 1
  | .iface _ d => uptoBulk d + 1
  | .map entries => uptoBulkEntries entries + 1
  | .held _ => 1
def uptoBulkAll {H : Type} : List (DataW H) → Nat
  | [] => 0
  | d :: r => uptoBulk d + uptoBulkAll r
def uptoBulkEntries {H : Type} : List (Lit × DataW H) → Nat
  | [] => 0
  | x :: r => uptoBulkEntry x + uptoBulkEntries r
def uptoBulkEntry {H : Type} : Lit × DataW H → Nat
  | (.string bytes, d) => bytes.length + uptoBulk d + 1
  | (_, d) => uptoBulk d + 1
 end
def uptoSmall : (H : Type) → List (DataW H) → Bool := fun _ ds => decide (uptoBulkAll ds ≤ 1048576)
def OpenSpec.upto (s : _root_.Go.ChangeSpec) : _root_.Go.OpenSpec := { _root_.Go.OpenSpec.ofChange s with cond := some uptoSmall }

/-- 'haycroftlaw05.CellOnce', WHERE WHAT IT READS IS OF BULK AT MOST 1048576: true; the input reads as it did. -/
def cellOnceUptoRow : OpenClaim := { program := "ytbinpajhmnfhoaa", sum := "8cc9271d637c2469e9ff0cc466bb60530852efaca7bb4d972c40d1247cd44c6f", func := "haycroft/haycroftlaw05.CellOnce", spec := "cellOnce", inPlace := ["sync/atomic.CompareAndSwapUint64", "sync/atomic.AddInt64", "sync/atomic.LoadInt64", "sync/atomic.LoadUint64", "sync/atomic.StoreUint64"], apart := false, narrowed := true }
def CellOnceUptoSaid : Prop := cellOnceUptoRow.holds Try.pinned (OpenSpec.upto cellOnceSpec)

/-- 'haycroftlaw08.HeaderPacks', WHERE WHAT IT READS IS OF BULK AT MOST 1048576: true; the input reads as it did. -/
def headerPacksUptoRow : OpenClaim := { program := "ytbinpajhmnfhoaa", sum := "8cc9271d637c2469e9ff0cc466bb60530852efaca7bb4d972c40d1247cd44c6f", func := "haycroft/haycroftlaw08.HeaderPacks", spec := "headerPacks", apart := false, narrowed := true }
def HeaderPacksUptoSaid : Prop := headerPacksUptoRow.holds Try.pinned (OpenSpec.upto headerPacksSpec)

/-- 'haycroftlaw08.HeaderLengths', WHERE WHAT IT READS IS OF BULK AT MOST 1048576: true; the input reads as it did. -/
def headerLengthsUptoRow : OpenClaim := { program := "ytbinpajhmnfhoaa", sum := "8cc9271d637c2469e9ff0cc466bb60530852efaca7bb4d972c40d1247cd44c6f", func := "haycroft/haycroftlaw08.HeaderLengths", spec := "headerLengths", apart := false, narrowed := true }
def HeaderLengthsUptoSaid : Prop := headerLengthsUptoRow.holds Try.pinned (OpenSpec.upto headerLengthsSpec)

/-- 'haycroftlaw16.EntryPacks', WHERE WHAT IT READS IS OF BULK AT MOST 1048576: true; the input reads as it did. -/
def entryPacksUptoRow : OpenClaim := { program := "ytbinpajhmnfhoaa", sum := "8cc9271d637c2469e9ff0cc466bb60530852efaca7bb4d972c40d1247cd44c6f", func := "haycroft/haycroftlaw16.EntryPacks", spec := "entryPacks", apart := false, narrowed := true }
def EntryPacksUptoSaid : Prop := entryPacksUptoRow.holds Try.pinned (OpenSpec.upto entryPacksSpec)

/-- 'haycroftlaw13.MarksRise', WHERE WHAT IT READS IS OF BULK AT MOST 1048576: true; the input reads as it did. -/
def marksRiseUptoRow : OpenClaim := { program := "ytbinpajhmnfhoaa", sum := "8cc9271d637c2469e9ff0cc466bb60530852efaca7bb4d972c40d1247cd44c6f", func := "haycroft/haycroftlaw13.MarksRise", spec := "marksRise", inPlace := ["sync/atomic.LoadUint64", "sync/atomic.StoreUint64"], apart := false, narrowed := true }
def MarksRiseUptoSaid : Prop := marksRiseUptoRow.holds Try.pinned (OpenSpec.upto marksRiseSpec)

/-- 'haycroftlaw08.HeaderLocks', WHERE WHAT IT READS IS OF BULK AT MOST 1048576: true; the input reads as it did. -/
def headerLocksUptoRow : OpenClaim := { program := "ytbinpajhmnfhoaa", sum := "8cc9271d637c2469e9ff0cc466bb60530852efaca7bb4d972c40d1247cd44c6f", func := "haycroft/haycroftlaw08.HeaderLocks", spec := "headerLocks", apart := false, narrowed := true }
def HeaderLocksUptoSaid : Prop := headerLocksUptoRow.holds Try.pinned (OpenSpec.upto headerLocksSpec)

/-- 'haycroftlaw08.HeaderTurns', WHERE WHAT IT READS IS OF BULK AT MOST 1048576: true; the input reads as it did. -/
def headerTurnsUptoRow : OpenClaim := { program := "ytbinpajhmnfhoaa", sum := "8cc9271d637c2469e9ff0cc466bb60530852efaca7bb4d972c40d1247cd44c6f", func := "haycroft/haycroftlaw08.HeaderTurns", spec := "headerTurns", apart := false, narrowed := true }
def HeaderTurnsUptoSaid : Prop := headerTurnsUptoRow.holds Try.pinned (OpenSpec.upto headerTurnsSpec)

/-- 'haycroftlaw05.CellNil', WHERE WHAT IT READS IS OF BULK AT MOST 1048576: true; the input reads as it did. -/
def cellNilUptoRow : OpenClaim := { program := "ytbinpajhmnfhoaa", sum := "8cc9271d637c2469e9ff0cc466bb60530852efaca7bb4d972c40d1247cd44c6f", func := "haycroft/haycroftlaw05.CellNil", spec := "cellNil", inPlace := ["sync/atomic.CompareAndSwapUint64", "sync/atomic.AddInt64", "sync/atomic.LoadInt64", "sync/atomic.LoadUint64", "sync/atomic.AddUint64", "sync/atomic.StoreUint64"], apart := false, narrowed := true }
def CellNilUptoSaid : Prop := cellNilUptoRow.holds Try.pinned (OpenSpec.upto cellNilSpec)

/-- 'haycroftlaw16.EntryTurns', WHERE WHAT IT READS IS OF BULK AT MOST 1048576: true; the input reads as it did. -/
def entryTurnsUptoRow : OpenClaim := { program := "ytbinpajhmnfhoaa", sum := "8cc9271d637c2469e9ff0cc466bb60530852efaca7bb4d972c40d1247cd44c6f", func := "haycroft/haycroftlaw16.EntryTurns", spec := "entryTurns", apart := false, narrowed := true }
def EntryTurnsUptoSaid : Prop := entryTurnsUptoRow.holds Try.pinned (OpenSpec.upto entryTurnsSpec)

/-- 'haycroftlaw13.MarksPlay', WHERE WHAT IT READS IS OF BULK AT MOST 1048576: true; the input reads as it did. -/
def marksPlayUptoRow : OpenClaim := { program := "ytbinpajhmnfhoaa", sum := "8cc9271d637c2469e9ff0cc466bb60530852efaca7bb4d972c40d1247cd44c6f", func := "haycroft/haycroftlaw13.MarksPlay", spec := "marksPlay", inPlace := ["sync/atomic.LoadUint64", "sync/atomic.StoreUint64"], apart := false, narrowed := true }
def MarksPlayUptoSaid : Prop := marksPlayUptoRow.holds Try.pinned (OpenSpec.upto marksPlaySpec)

/-- 'haycroftlaw13.MarksNil', WHERE WHAT IT READS IS OF BULK AT MOST 1048576: true; the input reads as it did. -/
def marksNilUptoRow : OpenClaim := { program := "ytbinpajhmnfhoaa", sum := "8cc9271d637c2469e9ff0cc466bb60530852efaca7bb4d972c40d1247cd44c6f", func := "haycroft/haycroftlaw13.MarksNil", spec := "marksNil", inPlace := ["sync/atomic.LoadUint64", "sync/atomic.StoreUint64"], apart := false, narrowed := true }
def MarksNilUptoSaid : Prop := marksNilUptoRow.holds Try.pinned (OpenSpec.upto marksNilSpec)

end Rows
end Go.Proofs.Ytbinpajhmnfhoaa
