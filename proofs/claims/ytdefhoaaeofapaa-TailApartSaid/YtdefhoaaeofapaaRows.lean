/-
  No cell of these rows narrows 'for every input' (looked for: loops, veiled, ifaces, maps, wideKeys, modest, calm, conditions, laid).
  DERIVED. THE GIVEN ROWS OF THIS SEAT. 10 by the template 'for every input the law returns true; each argument reads behind the call as it read before'; 0 by the template 'total and deterministic' (their statements: YtdefhoaaeofapaaTotals.lean).
  GIVEN WITH THE SEED: the statements are not yours to turn. If you find one false, say at which input.
  Laid BY PROGRAM, IN A SANDBOX (cutbox-rows.mjs): the forced cells as the released guide's own fill.sh prints them over the translation 6abc3dc3cad02292… (all of the seat's roots in one cut). By AI agents, Wed Nov 11 2026. No macro, syntax, notation, axiom, sorry.
-/
import Derived.Test.YtdefhoaaeofapaaChecked
import GoSem.Claim
import GoSem.ClaimJoined
import GoSem.ClaimMapViews
import Derived.JoinedTies
import Derived.KernelRfl
namespace Go.Proofs.Ytdefhoaaeofapaa
/- THE CELL 'sum', in the pinned program and in every row, IS THE sha256 OF THE DUMP (.gsa) THAT YtdefhoaaeofapaaProg.lean LOADS. Nothing in Lean hashes anything: it is a label: what it is worth is what the hold of that sum in a sandbox is worth. -/
noncomputable def Try.pinned : Pinned := { name := "ytdefhoaaeofapaa", sum := "6abc3dc3cad022926f61a5bbca8f93e8e486921b0e19105b2cc06eb3120b75e3", checked := Try.checked }
namespace Rows
def none {H : Type} : Left H := { results := [], args := [] }

/-- 'haycroftlaw09.RecordSizes': WHATEVER THE INPUT: true; the input reads as it did. -/
def recordSizesSpec : ChangeSpec := { name := "recordSizes", fn := fun _ => fun
  | [d1, d2] => { results := [.lit (.bool true)], args := [d1, d2] }
  | _ => none }
def recordSizesRow : OpenClaim := { program := "ytdefhoaaeofapaa", sum := "6abc3dc3cad022926f61a5bbca8f93e8e486921b0e19105b2cc06eb3120b75e3", func := "haycroft/haycroftlaw09.RecordSizes", spec := "recordSizes", apart := false }
def RecordSizesSaid : Prop := recordSizesRow.holds Try.pinned (OpenSpec.ofChange recordSizesSpec)

/-- ITS FALSE NEIGHBOUR: 'it returns false'. Refute it at one input. -/
def recordSizesWrong : ChangeSpec := { name := "recordSizes", fn := fun _ => fun
  | [d1, d2] => { results := [.lit (.bool false)], args := [d1, d2] }
  | _ => none }
def RecordSizesWrongFalsely : Prop := recordSizesRow.holds Try.pinned (OpenSpec.ofChange recordSizesWrong)

/-- 'haycroftlaw06.EpochPlays': WHATEVER THE INPUT: true; the input reads as it did. -/
def epochPlaysSpec : ChangeSpec := { name := "epochPlays", fn := fun _ => fun
  | [d1, d2] => { results := [.lit (.bool true)], args := [d1, d2] }
  | _ => none }
def epochPlaysRow : OpenClaim := { program := "ytdefhoaaeofapaa", sum := "6abc3dc3cad022926f61a5bbca8f93e8e486921b0e19105b2cc06eb3120b75e3", func := "haycroft/haycroftlaw06.EpochPlays", spec := "epochPlays", inPlace := ["sync/atomic.StoreUint64", "sync/atomic.LoadUint64", "sync/atomic.AddUint64"], apart := false }
def EpochPlaysSaid : Prop := epochPlaysRow.holds Try.pinned (OpenSpec.ofChange epochPlaysSpec)

/-- ITS FALSE NEIGHBOUR: 'it returns false'. Refute it at one input. -/
def epochPlaysWrong : ChangeSpec := { name := "epochPlays", fn := fun _ => fun
  | [d1, d2] => { results := [.lit (.bool false)], args := [d1, d2] }
  | _ => none }
def EpochPlaysWrongFalsely : Prop := epochPlaysRow.holds Try.pinned (OpenSpec.ofChange epochPlaysWrong)

/-- 'haycroftlaw06.EpochRises': WHATEVER THE INPUT: true; the input reads as it did. -/
def epochRisesSpec : ChangeSpec := { name := "epochRises", fn := fun _ => fun
  | [d1, d2] => { results := [.lit (.bool true)], args := [d1, d2] }
  | _ => none }
def epochRisesRow : OpenClaim := { program := "ytdefhoaaeofapaa", sum := "6abc3dc3cad022926f61a5bbca8f93e8e486921b0e19105b2cc06eb3120b75e3", func := "haycroft/haycroftlaw06.EpochRises", spec := "epochRises", inPlace := ["sync/atomic.StoreUint64", "sync/atomic.LoadUint64", "sync/atomic.AddUint64"], apart := false }
def EpochRisesSaid : Prop := epochRisesRow.holds Try.pinned (OpenSpec.ofChange epochRisesSpec)

/-- ITS FALSE NEIGHBOUR: 'it returns false'. Refute it at one input. -/
def epochRisesWrong : ChangeSpec := { name := "epochRises", fn := fun _ => fun
  | [d1, d2] => { results := [.lit (.bool false)], args := [d1, d2] }
  | _ => none }
def EpochRisesWrongFalsely : Prop := epochRisesRow.holds Try.pinned (OpenSpec.ofChange epochRisesWrong)

/-- 'haycroftlaw06.EpochComes': WHATEVER THE INPUT: true; the input reads as it did. -/
def epochComesSpec : ChangeSpec := { name := "epochComes", fn := fun _ => fun
  | [d1, d2, d3] => { results := [.lit (.bool true)], args := [d1, d2, d3] }
  | _ => none }
def epochComesRow : OpenClaim := { program := "ytdefhoaaeofapaa", sum := "6abc3dc3cad022926f61a5bbca8f93e8e486921b0e19105b2cc06eb3120b75e3", func := "haycroft/haycroftlaw06.EpochComes", spec := "epochComes", inPlace := ["sync/atomic.StoreUint64", "sync/atomic.LoadUint64", "sync/atomic.AddUint64"], apart := false }
def EpochComesSaid : Prop := epochComesRow.holds Try.pinned (OpenSpec.ofChange epochComesSpec)

/-- ITS FALSE NEIGHBOUR: 'it returns false'. Refute it at one input. -/
def epochComesWrong : ChangeSpec := { name := "epochComes", fn := fun _ => fun
  | [d1, d2, d3] => { results := [.lit (.bool false)], args := [d1, d2, d3] }
  | _ => none }
def EpochComesWrongFalsely : Prop := epochComesRow.holds Try.pinned (OpenSpec.ofChange epochComesWrong)

/-- 'haycroftlaw06.EpochNil': WHATEVER THE INPUT: true; the input reads as it did. -/
def epochNilSpec : ChangeSpec := { name := "epochNil", fn := fun _ => fun
  | [d] => { results := [.lit (.bool true)], args := [d] }
  | _ => none }
def epochNilRow : OpenClaim := { program := "ytdefhoaaeofapaa", sum := "6abc3dc3cad022926f61a5bbca8f93e8e486921b0e19105b2cc06eb3120b75e3", func := "haycroft/haycroftlaw06.EpochNil", spec := "epochNil", inPlace := ["sync/atomic.StoreUint64", "sync/atomic.LoadUint64", "sync/atomic.AddUint64"], apart := false }
def EpochNilSaid : Prop := epochNilRow.holds Try.pinned (OpenSpec.ofChange epochNilSpec)

/-- ITS FALSE NEIGHBOUR: 'it returns false'. Refute it at one input. -/
def epochNilWrong : ChangeSpec := { name := "epochNil", fn := fun _ => fun
  | [d] => { results := [.lit (.bool false)], args := [d] }
  | _ => none }
def EpochNilWrongFalsely : Prop := epochNilRow.holds Try.pinned (OpenSpec.ofChange epochNilWrong)

/-- 'haycroftlaw09.RecordNumbers': WHATEVER THE INPUT: true; the input reads as it did. -/
def recordNumbersSpec : ChangeSpec := { name := "recordNumbers", fn := fun _ => fun
  | [d1, d2] => { results := [.lit (.bool true)], args := [d1, d2] }
  | _ => none }
def recordNumbersRow : OpenClaim := { program := "ytdefhoaaeofapaa", sum := "6abc3dc3cad022926f61a5bbca8f93e8e486921b0e19105b2cc06eb3120b75e3", func := "haycroft/haycroftlaw09.RecordNumbers", spec := "recordNumbers", apart := false }
def RecordNumbersSaid : Prop := recordNumbersRow.holds Try.pinned (OpenSpec.ofChange recordNumbersSpec)

/-- ITS FALSE NEIGHBOUR: 'it returns false'. Refute it at one input. -/
def recordNumbersWrong : ChangeSpec := { name := "recordNumbers", fn := fun _ => fun
  | [d1, d2] => { results := [.lit (.bool false)], args := [d1, d2] }
  | _ => none }
def RecordNumbersWrongFalsely : Prop := recordNumbersRow.holds Try.pinned (OpenSpec.ofChange recordNumbersWrong)

/-- 'haycroftlaw09.RecordWords': WHATEVER THE INPUT: true; the input reads as it did. -/
def recordWordsSpec : ChangeSpec := { name := "recordWords", fn := fun _ => fun
  | [d1, d2] => { results := [.lit (.bool true)], args := [d1, d2] }
  | _ => none }
def recordWordsRow : OpenClaim := { program := "ytdefhoaaeofapaa", sum := "6abc3dc3cad022926f61a5bbca8f93e8e486921b0e19105b2cc06eb3120b75e3", func := "haycroft/haycroftlaw09.RecordWords", spec := "recordWords", apart := false }
def RecordWordsSaid : Prop := recordWordsRow.holds Try.pinned (OpenSpec.ofChange recordWordsSpec)

/-- ITS FALSE NEIGHBOUR: 'it returns false'. Refute it at one input. -/
def recordWordsWrong : ChangeSpec := { name := "recordWords", fn := fun _ => fun
  | [d1, d2] => { results := [.lit (.bool false)], args := [d1, d2] }
  | _ => none }
def RecordWordsWrongFalsely : Prop := recordWordsRow.holds Try.pinned (OpenSpec.ofChange recordWordsWrong)

/-- 'haycroftlaw14.TailPlays': WHATEVER THE INPUT: true; the input reads as it did. -/
def tailPlaysSpec : ChangeSpec := { name := "tailPlays", fn := fun _ => fun
  | [d1, d2, d3] => { results := [.lit (.bool true)], args := [d1, d2, d3] }
  | _ => none }
def tailPlaysRow : OpenClaim := { program := "ytdefhoaaeofapaa", sum := "6abc3dc3cad022926f61a5bbca8f93e8e486921b0e19105b2cc06eb3120b75e3", func := "haycroft/haycroftlaw14.TailPlays", spec := "tailPlays", inPlace := ["sync/atomic.StoreUint64", "sync/atomic.LoadUint64", "sync/atomic.AddUint64"], apart := false }
def TailPlaysSaid : Prop := tailPlaysRow.holds Try.pinned (OpenSpec.ofChange tailPlaysSpec)

/-- ITS FALSE NEIGHBOUR: 'it returns false'. Refute it at one input. -/
def tailPlaysWrong : ChangeSpec := { name := "tailPlays", fn := fun _ => fun
  | [d1, d2, d3] => { results := [.lit (.bool false)], args := [d1, d2, d3] }
  | _ => none }
def TailPlaysWrongFalsely : Prop := tailPlaysRow.holds Try.pinned (OpenSpec.ofChange tailPlaysWrong)

/-- 'haycroftlaw14.TailNil': WHATEVER THE INPUT: true; the input reads as it did. -/
def tailNilSpec : ChangeSpec := { name := "tailNil", fn := fun _ => fun
  | [d] => { results := [.lit (.bool true)], args := [d] }
  | _ => none }
def tailNilRow : OpenClaim := { program := "ytdefhoaaeofapaa", sum := "6abc3dc3cad022926f61a5bbca8f93e8e486921b0e19105b2cc06eb3120b75e3", func := "haycroft/haycroftlaw14.TailNil", spec := "tailNil", inPlace := ["sync/atomic.StoreUint64", "sync/atomic.LoadUint64", "sync/atomic.AddUint64"], apart := false }
def TailNilSaid : Prop := tailNilRow.holds Try.pinned (OpenSpec.ofChange tailNilSpec)

/-- ITS FALSE NEIGHBOUR: 'it returns false'. Refute it at one input. -/
def tailNilWrong : ChangeSpec := { name := "tailNil", fn := fun _ => fun
  | [d] => { results := [.lit (.bool false)], args := [d] }
  | _ => none }
def TailNilWrongFalsely : Prop := tailNilRow.holds Try.pinned (OpenSpec.ofChange tailNilWrong)

/-- 'haycroftlaw14.TailApart': WHATEVER THE INPUT: true; the input reads as it did. -/
def tailApartSpec : ChangeSpec := { name := "tailApart", fn := fun _ => fun
  | [d1, d2, d3] => { results := [.lit (.bool true)], args := [d1, d2, d3] }
  | _ => none }
def tailApartRow : OpenClaim := { program := "ytdefhoaaeofapaa", sum := "6abc3dc3cad022926f61a5bbca8f93e8e486921b0e19105b2cc06eb3120b75e3", func := "haycroft/haycroftlaw14.TailApart", spec := "tailApart", inPlace := ["sync/atomic.StoreUint64", "sync/atomic.LoadUint64", "sync/atomic.AddUint64"], apart := false }
def TailApartSaid : Prop := tailApartRow.holds Try.pinned (OpenSpec.ofChange tailApartSpec)

/-- ITS FALSE NEIGHBOUR: 'it returns false'. Refute it at one input. -/
def tailApartWrong : ChangeSpec := { name := "tailApart", fn := fun _ => fun
  | [d1, d2, d3] => { results := [.lit (.bool false)], args := [d1, d2, d3] }
  | _ => none }
def TailApartWrongFalsely : Prop := tailApartRow.holds Try.pinned (OpenSpec.ofChange tailApartWrong)

/- THE SECOND FORM. 'bulk': how many values and letters a reading holds, each counted each time it is reached (what is shared counts as often as it is met; a slice's spare places count too). A statement '..UptoSaid' is the law's where the arguments, and the package variables that the reading takes, are together of bulk at most 1048576: NARROWER than '..Said'. Prove '..Said' where nothing that the law and all that it calls make is longer than what came in: it says more and counts as full. Else prove '..UptoSaid'. A law counts once. -/
mutual
def uptoBulk {H : Type} : DataW H → Nat
  | .lit (.string bytes) => bytes.length + 1
  | .lit _ => 1
  | .nil => 1
  | .ptr d => uptoBulk d + 1
  | .slice elems spare => uptoBulkAll elems + uptoBulkAll spare + 1
  | .agg parts => uptoBulkAll parts + 1
  | .iface _ d => uptoBulk d + 1
  | .map entries => uptoBulkEntries entries + 1
  | .held _ => 1
def uptoBulkAll {H : Type} : List (DataW H) → Nat
  | [] => 0
  | d :: r => uptoBulk d + uptoBulkAll r
def uptoBulkEntries {H : Type} : List (Lit × DataW H) → Nat
  | [] => 0
  | x :: r => uptoBulkEntry x + uptoBulkEntries r
def uptoBulkEntry {H : Type} : Lit × DataW H → Nat
  | (.string bytes, d) => bytes.length + uptoBulk d + 1
  | (_, d) => uptoBulk d + 1
 end
def uptoSmall : (H : Type) → List (DataW H) → Bool := fun _ ds => decide (uptoBulkAll ds ≤ 1048576)
def OpenSpec.upto (s : _root_.Go.ChangeSpec) : _root_.Go.OpenSpec := { _root_.Go.OpenSpec.ofChange s with cond := some uptoSmall }

/-- 'haycroftlaw09.RecordSizes', WHERE WHAT IT READS IS OF BULK AT MOST 1048576: true; the input reads as it did. -/
def recordSizesUptoRow : OpenClaim := { program := "ytdefhoaaeofapaa", sum := "6abc3dc3cad022926f61a5bbca8f93e8e486921b0e19105b2cc06eb3120b75e3", func := "haycroft/haycroftlaw09.RecordSizes", spec := "recordSizes", apart := false, narrowed := true }
def RecordSizesUptoSaid : Prop := recordSizesUptoRow.holds Try.pinned (OpenSpec.upto recordSizesSpec)

/-- 'haycroftlaw06.EpochPlays', WHERE WHAT IT READS IS OF BULK AT MOST 1048576: true; the input reads as it did. -/
def epochPlaysUptoRow : OpenClaim := { program := "ytdefhoaaeofapaa", sum := "6abc3dc3cad022926f61a5bbca8f93e8e486921b0e19105b2cc06eb3120b75e3", func := "haycroft/haycroftlaw06.EpochPlays", spec := "epochPlays", inPlace := ["sync/atomic.StoreUint64", "sync/atomic.LoadUint64", "sync/atomic.AddUint64"], apart := false, narrowed := true }
def EpochPlaysUptoSaid : Prop := epochPlaysUptoRow.holds Try.pinned (OpenSpec.upto epochPlaysSpec)

/-- 'haycroftlaw06.EpochRises', WHERE WHAT IT READS IS OF BULK AT MOST 1048576: true; the input reads as it did. -/
def epochRisesUptoRow : OpenClaim := { program := "ytdefhoaaeofapaa", sum := "6abc3dc3cad022926f61a5bbca8f93e8e486921b0e19105b2cc06eb3120b75e3", func := "haycroft/haycroftlaw06.EpochRises", spec := "epochRises", inPlace := ["sync/atomic.StoreUint64", "sync/atomic.LoadUint64", "sync/atomic.AddUint64"], apart := false, narrowed := true }
def EpochRisesUptoSaid : Prop := epochRisesUptoRow.holds Try.pinned (OpenSpec.upto epochRisesSpec)

/-- 'haycroftlaw06.EpochComes', WHERE WHAT IT READS IS OF BULK AT MOST 1048576: true; the input reads as it did. -/
def epochComesUptoRow : OpenClaim := { program := "ytdefhoaaeofapaa", sum := "6abc3dc3cad022926f61a5bbca8f93e8e486921b0e19105b2cc06eb3120b75e3", func := "haycroft/haycroftlaw06.EpochComes", spec := "epochComes", inPlace := ["sync/atomic.StoreUint64", "sync/atomic.LoadUint64", "sync/atomic.AddUint64"], apart := false, narrowed := true }
def EpochComesUptoSaid : Prop := epochComesUptoRow.holds Try.pinned (OpenSpec.upto epochComesSpec)

/-- 'haycroftlaw06.EpochNil', WHERE WHAT IT READS IS OF BULK AT MOST 1048576: true; the input reads as it did. -/
def epochNilUptoRow : OpenClaim := { program := "ytdefhoaaeofapaa", sum := "6abc3dc3cad022926f61a5bbca8f93e8e486921b0e19105b2cc06eb3120b75e3", func := "haycroft/haycroftlaw06.EpochNil", spec := "epochNil", inPlace := ["sync/atomic.StoreUint64", "sync/atomic.LoadUint64", "sync/atomic.AddUint64"], apart := false, narrowed := true }
def EpochNilUptoSaid : Prop := epochNilUptoRow.holds Try.pinned (OpenSpec.upto epochNilSpec)

/-- 'haycroftlaw09.RecordNumbers', WHERE WHAT IT READS IS OF BULK AT MOST 1048576: true; the input reads as it did. -/
def recordNumbersUptoRow : OpenClaim := { program := "ytdefhoaaeofapaa", sum := "6abc3dc3cad022926f61a5bbca8f93e8e486921b0e19105b2cc06eb3120b75e3", func := "haycroft/haycroftlaw09.RecordNumbers", spec := "recordNumbers", apart := false, narrowed := true }
def RecordNumbersUptoSaid : Prop := recordNumbersUptoRow.holds Try.pinned (OpenSpec.upto recordNumbersSpec)

/-- 'haycroftlaw09.RecordWords', WHERE WHAT IT READS IS OF BULK AT MOST 1048576: true; the input reads as it did. -/
def recordWordsUptoRow : OpenClaim := { program := "ytdefhoaaeofapaa", sum := "6abc3dc3cad022926f61a5bbca8f93e8e486921b0e19105b2cc06eb3120b75e3", func := "haycroft/haycroftlaw09.RecordWords", spec := "recordWords", apart := false, narrowed := true }
def RecordWordsUptoSaid : Prop := recordWordsUptoRow.holds Try.pinned (OpenSpec.upto recordWordsSpec)

/-- 'haycroftlaw14.TailPlays', WHERE WHAT IT READS IS OF BULK AT MOST 1048576: true; the input reads as it did. -/
def tailPlaysUptoRow : OpenClaim := { program := "ytdefhoaaeofapaa", sum := "6abc3dc3cad022926f61a5bbca8f93e8e486921b0e19105b2cc06eb3120b75e3", func := "haycroft/haycroftlaw14.TailPlays", spec := "tailPlays", inPlace := ["sync/atomic.StoreUint64", "sync/atomic.LoadUint64", "sync/atomic.AddUint64"], apart := false, narrowed := true }
def TailPlaysUptoSaid : Prop := tailPlaysUptoRow.holds Try.pinned (OpenSpec.upto tailPlaysSpec)

/-- 'haycroftlaw14.TailNil', WHERE WHAT IT READS IS OF BULK AT MOST 1048576: true; the input reads as it did. -/
def tailNilUptoRow : OpenClaim := { program := "ytdefhoaaeofapaa", sum := "6abc3dc3cad022926f61a5bbca8f93e8e486921b0e19105b2cc06eb3120b75e3", func := "haycroft/haycroftlaw14.TailNil", spec := "tailNil", inPlace := ["sync/atomic.StoreUint64", "sync/atomic.LoadUint64", "sync/atomic.AddUint64"], apart := false, narrowed := true }
def TailNilUptoSaid : Prop := tailNilUptoRow.holds Try.pinned (OpenSpec.upto tailNilSpec)

/-- 'haycroftlaw14.TailApart', WHERE WHAT IT READS IS OF BULK AT MOST 1048576: true; the input reads as it did. -/
def tailApartUptoRow : OpenClaim := { program := "ytdefhoaaeofapaa", sum := "6abc3dc3cad022926f61a5bbca8f93e8e486921b0e19105b2cc06eb3120b75e3", func := "haycroft/haycroftlaw14.TailApart", spec := "tailApart", inPlace := ["sync/atomic.StoreUint64", "sync/atomic.LoadUint64", "sync/atomic.AddUint64"], apart := false, narrowed := true }
def TailApartUptoSaid : Prop := tailApartUptoRow.holds Try.pinned (OpenSpec.upto tailApartSpec)

end Rows
end Go.Proofs.Ytdefhoaaeofapaa
