/-
  No cell of these rows narrows 'for every input' (looked for: loops, veiled, ifaces, maps, wideKeys, modest, calm, conditions, laid).
  DERIVED. THE GIVEN ROWS OF THIS SEAT. 6 by the template 'for every input the law returns true; each argument reads behind the call as it read before'; 0 by the template 'total and deterministic' (their statements: YtfchenbihepjaaaTotals.lean).
  GIVEN WITH THE SEED: the statements are not yours to turn. If you find one false, say at which input.
  Laid BY PROGRAM, IN A SANDBOX (cutbox-rows.mjs): the forced cells as the released guide's own fill.sh prints them over the translation 418a6e9036ffd23b… (all of the seat's roots in one cut). By AI agents, Wed Nov 11 2026. No macro, syntax, notation, axiom, sorry.
-/
import Derived.Test.YtfchenbihepjaaaChecked
import GoSem.Claim
import GoSem.ClaimJoined
import GoSem.ClaimMapViews
import Derived.JoinedTies
import Derived.KernelRfl
namespace Go.Proofs.Ytfchenbihepjaaa
/- THE CELL 'sum', in the pinned program and in every row, IS THE sha256 OF THE DUMP (.gsa) THAT YtfchenbihepjaaaProg.lean LOADS. Nothing in Lean hashes anything: it is a label: what it is worth is what the hold of that sum in a sandbox is worth. -/
noncomputable def Try.pinned : Pinned := { name := "ytfchenbihepjaaa", sum := "418a6e9036ffd23baf4b5a07211c075ef8d05f817bf06380c51e7434a23739b7", checked := Try.checked }
namespace Rows
def none {H : Type} : Left H := { results := [], args := [] }

/-- 'haycroftlaw11.DeviceLasts': WHATEVER THE INPUT: true; the input reads as it did. -/
def deviceLastsSpec : ChangeSpec := { name := "deviceLasts", fn := fun _ => fun
  | [d1, d2] => { results := [.lit (.bool true)], args := [d1, d2] }
  | _ => none }
def deviceLastsRow : OpenClaim := { program := "ytfchenbihepjaaa", sum := "418a6e9036ffd23baf4b5a07211c075ef8d05f817bf06380c51e7434a23739b7", func := "haycroft/haycroftlaw11.DeviceLasts", spec := "deviceLasts", unfollowed := true, recurses := true, plainKeys := false, apart := false }
def DeviceLastsSaid : Prop := deviceLastsRow.holds Try.pinned (OpenSpec.ofChange deviceLastsSpec)

/-- ITS FALSE NEIGHBOUR: 'it returns false'. Refute it at one input. -/
def deviceLastsWrong : ChangeSpec := { name := "deviceLasts", fn := fun _ => fun
  | [d1, d2] => { results := [.lit (.bool false)], args := [d1, d2] }
  | _ => none }
def DeviceLastsWrongFalsely : Prop := deviceLastsRow.holds Try.pinned (OpenSpec.ofChange deviceLastsWrong)

/-- 'haycroftlaw11.DevicePlays': WHATEVER THE INPUT: true; the input reads as it did. -/
def devicePlaysSpec : ChangeSpec := { name := "devicePlays", fn := fun _ => fun
  | [d] => { results := [.lit (.bool true)], args := [d] }
  | _ => none }
def devicePlaysRow : OpenClaim := { program := "ytfchenbihepjaaa", sum := "418a6e9036ffd23baf4b5a07211c075ef8d05f817bf06380c51e7434a23739b7", func := "haycroft/haycroftlaw11.DevicePlays", spec := "devicePlays", unfollowed := true, recurses := true, plainKeys := false, apart := false }
def DevicePlaysSaid : Prop := devicePlaysRow.holds Try.pinned (OpenSpec.ofChange devicePlaysSpec)

/-- ITS FALSE NEIGHBOUR: 'it returns false'. Refute it at one input. -/
def devicePlaysWrong : ChangeSpec := { name := "devicePlays", fn := fun _ => fun
  | [d] => { results := [.lit (.bool false)], args := [d] }
  | _ => none }
def DevicePlaysWrongFalsely : Prop := devicePlaysRow.holds Try.pinned (OpenSpec.ofChange devicePlaysWrong)

/-- 'haycroftlaw11.DeviceNil': WHATEVER THE INPUT: true; the input reads as it did. -/
def deviceNilSpec : ChangeSpec := { name := "deviceNil", fn := fun _ => fun
  | [d] => { results := [.lit (.bool true)], args := [d] }
  | _ => none }
def deviceNilRow : OpenClaim := { program := "ytfchenbihepjaaa", sum := "418a6e9036ffd23baf4b5a07211c075ef8d05f817bf06380c51e7434a23739b7", func := "haycroft/haycroftlaw11.DeviceNil", spec := "deviceNil", unfollowed := true, recurses := true, plainKeys := false, apart := false }
def DeviceNilSaid : Prop := deviceNilRow.holds Try.pinned (OpenSpec.ofChange deviceNilSpec)

/-- ITS FALSE NEIGHBOUR: 'it returns false'. Refute it at one input. -/
def deviceNilWrong : ChangeSpec := { name := "deviceNil", fn := fun _ => fun
  | [d] => { results := [.lit (.bool false)], args := [d] }
  | _ => none }
def DeviceNilWrongFalsely : Prop := deviceNilRow.holds Try.pinned (OpenSpec.ofChange deviceNilWrong)

/-- 'haycroftlaw12.PagesFew': WHATEVER THE INPUT: true; the input reads as it did. -/
def pagesFewSpec : ChangeSpec := { name := "pagesFew", fn := fun _ => fun
  | [d1, d2, d3, d4] => { results := [.lit (.bool true)], args := [d1, d2, d3, d4] }
  | _ => none }
def pagesFewRow : OpenClaim := { program := "ytfchenbihepjaaa", sum := "418a6e9036ffd23baf4b5a07211c075ef8d05f817bf06380c51e7434a23739b7", func := "haycroft/haycroftlaw12.PagesFew", spec := "pagesFew", inPlace := ["sync/atomic.LoadUint64", "sync/atomic.CompareAndSwapUint64", "sync/atomic.AddInt64", "sync/atomic.StoreUint64"], recurses := true, plainKeys := false, apart := false }
def PagesFewSaid : Prop := pagesFewRow.holds Try.pinned (OpenSpec.ofChange pagesFewSpec)

/-- ITS FALSE NEIGHBOUR: 'it returns false'. Refute it at one input. -/
def pagesFewWrong : ChangeSpec := { name := "pagesFew", fn := fun _ => fun
  | [d1, d2, d3, d4] => { results := [.lit (.bool false)], args := [d1, d2, d3, d4] }
  | _ => none }
def PagesFewWrongFalsely : Prop := pagesFewRow.holds Try.pinned (OpenSpec.ofChange pagesFewWrong)

/-- 'haycroftlaw12.PagesPlay': WHATEVER THE INPUT: true; the input reads as it did. -/
def pagesPlaySpec : ChangeSpec := { name := "pagesPlay", fn := fun _ => fun
  | [d1, d2, d3] => { results := [.lit (.bool true)], args := [d1, d2, d3] }
  | _ => none }
def pagesPlayRow : OpenClaim := { program := "ytfchenbihepjaaa", sum := "418a6e9036ffd23baf4b5a07211c075ef8d05f817bf06380c51e7434a23739b7", func := "haycroft/haycroftlaw12.PagesPlay", spec := "pagesPlay", inPlace := ["sync/atomic.LoadUint64", "sync/atomic.CompareAndSwapUint64", "sync/atomic.AddInt64", "sync/atomic.StoreUint64"], recurses := true, plainKeys := false, apart := false }
def PagesPlaySaid : Prop := pagesPlayRow.holds Try.pinned (OpenSpec.ofChange pagesPlaySpec)

/-- ITS FALSE NEIGHBOUR: 'it returns false'. Refute it at one input. -/
def pagesPlayWrong : ChangeSpec := { name := "pagesPlay", fn := fun _ => fun
  | [d1, d2, d3] => { results := [.lit (.bool false)], args := [d1, d2, d3] }
  | _ => none }
def PagesPlayWrongFalsely : Prop := pagesPlayRow.holds Try.pinned (OpenSpec.ofChange pagesPlayWrong)

/-- 'haycroftlaw12.PagesNil': WHATEVER THE INPUT: true; the input reads as it did. -/
def pagesNilSpec : ChangeSpec := { name := "pagesNil", fn := fun _ => fun
  | [d] => { results := [.lit (.bool true)], args := [d] }
  | _ => none }
def pagesNilRow : OpenClaim := { program := "ytfchenbihepjaaa", sum := "418a6e9036ffd23baf4b5a07211c075ef8d05f817bf06380c51e7434a23739b7", func := "haycroft/haycroftlaw12.PagesNil", spec := "pagesNil", inPlace := ["sync/atomic.LoadUint64", "sync/atomic.CompareAndSwapUint64", "sync/atomic.AddInt64", "sync/atomic.StoreUint64"], recurses := true, plainKeys := false, apart := false }
def PagesNilSaid : Prop := pagesNilRow.holds Try.pinned (OpenSpec.ofChange pagesNilSpec)

/-- ITS FALSE NEIGHBOUR: 'it returns false'. Refute it at one input. -/
def pagesNilWrong : ChangeSpec := { name := "pagesNil", fn := fun _ => fun
  | [d] => { results := [.lit (.bool false)], args := [d] }
  | _ => none }
def PagesNilWrongFalsely : Prop := pagesNilRow.holds Try.pinned (OpenSpec.ofChange pagesNilWrong)

/- THE SECOND FORM. 'bulk': how many values and letters a reading holds, each counted each time it is reached (what is shared counts as often as it is met; a slice's spare places count too). A statement '..UptoSaid' is the law's where the arguments, and the package variables that the reading takes, are together of bulk at most 1048576: NARROWER than '..Said'. Prove '..Said' where nothing that the law and all that it calls make is longer than what came in: it says more and counts as full. Else prove '..UptoSaid'. A law counts once. -/
mutual
def uptoBulk {H : Type} : DataW H → Nat
  | .lit (.string bytes) => bytes.length + 1
  | .lit _ => 1
  | .nil => 1
  | .ptr d => uptoBulk d + 1
  | .slice elems spare => uptoBulkAll elems + uptoBulkAll spare + 1
  | .agg parts => uptoBulkAll parts + 1
  | .iface _ d => uptoBulk d + 1
  | .map entries => uptoBulkEntries entries + 1
  | .held _ => 1
def uptoBulkAll {H : Type} : List (DataW H) → Nat
  | [] => 0
  | d :: r => uptoBulk d + uptoBulkAll r
def uptoBulkEntries {H : Type} : List (Lit × DataW H) → Nat
  | [] => 0
  | x :: r => uptoBulkEntry x + uptoBulkEntries r
def uptoBulkEntry {H : Type} : Lit × DataW H → Nat
  | (.string bytes, d) => bytes.length + uptoBulk d + 1
  | (_, d) => uptoBulk d + 1
 end
def uptoSmall : (H : Type) → List (DataW H) → Bool := fun _ ds => decide (uptoBulkAll ds ≤ 1048576)
def OpenSpec.upto (s : _root_.Go.ChangeSpec) : _root_.Go.OpenSpec := { _root_.Go.OpenSpec.ofChange s with cond := some uptoSmall }

/-- 'haycroftlaw11.DeviceLasts', WHERE WHAT IT READS IS OF BULK AT MOST 1048576: true; the input reads as it did. -/
def deviceLastsUptoRow : OpenClaim := { program := "ytfchenbihepjaaa", sum := "418a6e9036ffd23baf4b5a07211c075ef8d05f817bf06380c51e7434a23739b7", func := "haycroft/haycroftlaw11.DeviceLasts", spec := "deviceLasts", unfollowed := true, recurses := true, plainKeys := false, apart := false, narrowed := true }
def DeviceLastsUptoSaid : Prop := deviceLastsUptoRow.holds Try.pinned (OpenSpec.upto deviceLastsSpec)

/-- 'haycroftlaw11.DevicePlays', WHERE WHAT IT READS IS OF BULK AT MOST 1048576: true; the input reads as it did. -/
def devicePlaysUptoRow : OpenClaim := { program := "ytfchenbihepjaaa", sum := "418a6e9036ffd23baf4b5a07211c075ef8d05f817bf06380c51e7434a23739b7", func := "haycroft/haycroftlaw11.DevicePlays", spec := "devicePlays", unfollowed := true, recurses := true, plainKeys := false, apart := false, narrowed := true }
def DevicePlaysUptoSaid : Prop := devicePlaysUptoRow.holds Try.pinned (OpenSpec.upto devicePlaysSpec)

/-- 'haycroftlaw11.DeviceNil', WHERE WHAT IT READS IS OF BULK AT MOST 1048576: true; the input reads as it did. -/
def deviceNilUptoRow : OpenClaim := { program := "ytfchenbihepjaaa", sum := "418a6e9036ffd23baf4b5a07211c075ef8d05f817bf06380c51e7434a23739b7", func := "haycroft/haycroftlaw11.DeviceNil", spec := "deviceNil", unfollowed := true, recurses := true, plainKeys := false, apart := false, narrowed := true }
def DeviceNilUptoSaid : Prop := deviceNilUptoRow.holds Try.pinned (OpenSpec.upto deviceNilSpec)

/-- 'haycroftlaw12.PagesFew', WHERE WHAT IT READS IS OF BULK AT MOST 1048576: true; the input reads as it did. -/
def pagesFewUptoRow : OpenClaim := { program := "ytfchenbihepjaaa", sum := "418a6e9036ffd23baf4b5a07211c075ef8d05f817bf06380c51e7434a23739b7", func := "haycroft/haycroftlaw12.PagesFew", spec := "pagesFew", inPlace := ["sync/atomic.LoadUint64", "sync/atomic.CompareAndSwapUint64", "sync/atomic.AddInt64", "sync/atomic.StoreUint64"], recurses := true, plainKeys := false, apart := false, narrowed := true }
def PagesFewUptoSaid : Prop := pagesFewUptoRow.holds Try.pinned (OpenSpec.upto pagesFewSpec)

/-- 'haycroftlaw12.PagesPlay', WHERE WHAT IT READS IS OF BULK AT MOST 1048576: true; the input reads as it did. -/
def pagesPlayUptoRow : OpenClaim := { program := "ytfchenbihepjaaa", sum := "418a6e9036ffd23baf4b5a07211c075ef8d05f817bf06380c51e7434a23739b7", func := "haycroft/haycroftlaw12.PagesPlay", spec := "pagesPlay", inPlace := ["sync/atomic.LoadUint64", "sync/atomic.CompareAndSwapUint64", "sync/atomic.AddInt64", "sync/atomic.StoreUint64"], recurses := true, plainKeys := false, apart := false, narrowed := true }
def PagesPlayUptoSaid : Prop := pagesPlayUptoRow.holds Try.pinned (OpenSpec.upto pagesPlaySpec)

/-- 'haycroftlaw12.PagesNil', WHERE WHAT IT READS IS OF BULK AT MOST 1048576: true; the input reads as it did. -/
def pagesNilUptoRow : OpenClaim := { program := "ytfchenbihepjaaa", sum := "418a6e9036ffd23baf4b5a07211c075ef8d05f817bf06380c51e7434a23739b7", func := "haycroft/haycroftlaw12.PagesNil", spec := "pagesNil", inPlace := ["sync/atomic.LoadUint64", "sync/atomic.CompareAndSwapUint64", "sync/atomic.AddInt64", "sync/atomic.StoreUint64"], recurses := true, plainKeys := false, apart := false, narrowed := true }
def PagesNilUptoSaid : Prop := pagesNilUptoRow.holds Try.pinned (OpenSpec.upto pagesNilSpec)

end Rows
end Go.Proofs.Ytfchenbihepjaaa
