/-
  No cell of these rows narrows 'for every input' (looked for: loops, veiled, ifaces, maps, wideKeys, modest, calm, conditions, laid).
  DERIVED. THE GIVEN ROWS OF THIS SEAT. 5 by the template 'for every input the law returns true; each argument reads behind the call as it read before'; 0 by the template 'total and deterministic' (their statements: YtojopmkekimpjaaTotals.lean).
  GIVEN WITH THE SEED: the statements are not yours to turn. If you find one false, say at which input.
  Laid BY PROGRAM, IN A SANDBOX (cutbox-rows.mjs): the forced cells as the released guide's own fill.sh prints them over the translation 4bf8817c21246c7b… (all of the seat's roots in one cut). By AI agents, Wed Nov 11 2026. No macro, syntax, notation, axiom, sorry.
-/
import Derived.Test.YtojopmkekimpjaaChecked
import GoSem.Claim
import GoSem.ClaimJoined
import GoSem.ClaimMapViews
import Derived.JoinedTies
import Derived.KernelRfl
namespace Go.Proofs.Ytojopmkekimpjaa
/- THE CELL 'sum', in the pinned program and in every row, IS THE sha256 OF THE DUMP (.gsa) THAT YtojopmkekimpjaaProg.lean LOADS. Nothing in Lean hashes anything: it is a label: what it is worth is what the hold of that sum in a sandbox is worth. -/
noncomputable def Try.pinned : Pinned := { name := "ytojopmkekimpjaa", sum := "4bf8817c21246c7bfc481ddcdfafb5b9dab58ff1f2da17d0c12dd505b6f5bdc6", checked := Try.checked }
namespace Rows
def none {H : Type} : Left H := { results := [], args := [] }

/-- 'haycroftlaw29.MeterMeasures': WHATEVER THE INPUT: true; the input reads as it did. -/
def meterMeasuresSpec : ChangeSpec := { name := "meterMeasures", fn := fun _ => fun
  | [d] => { results := [.lit (.bool true)], args := [d] }
  | _ => none }
def meterMeasuresRow : OpenClaim := { program := "ytojopmkekimpjaa", sum := "4bf8817c21246c7bfc481ddcdfafb5b9dab58ff1f2da17d0c12dd505b6f5bdc6", func := "haycroft/haycroftlaw29.MeterMeasures", spec := "meterMeasures", unfollowed := true, recurses := true, apart := false }
def MeterMeasuresSaid : Prop := meterMeasuresRow.holds Try.pinned (OpenSpec.ofChange meterMeasuresSpec)

/-- ITS FALSE NEIGHBOUR: 'it returns false'. Refute it at one input. -/
def meterMeasuresWrong : ChangeSpec := { name := "meterMeasures", fn := fun _ => fun
  | [d] => { results := [.lit (.bool false)], args := [d] }
  | _ => none }
def MeterMeasuresWrongFalsely : Prop := meterMeasuresRow.holds Try.pinned (OpenSpec.ofChange meterMeasuresWrong)

/-- 'haycroftlaw29.MeterShares': WHATEVER THE INPUT: true; the input reads as it did. -/
def meterSharesSpec : ChangeSpec := { name := "meterShares", fn := fun _ => fun
  | [d1, d2, d3] => { results := [.lit (.bool true)], args := [d1, d2, d3] }
  | _ => none }
def meterSharesRow : OpenClaim := { program := "ytojopmkekimpjaa", sum := "4bf8817c21246c7bfc481ddcdfafb5b9dab58ff1f2da17d0c12dd505b6f5bdc6", func := "haycroft/haycroftlaw29.MeterShares", spec := "meterShares", unfollowed := true, recurses := true, apart := false }
def MeterSharesSaid : Prop := meterSharesRow.holds Try.pinned (OpenSpec.ofChange meterSharesSpec)

/-- ITS FALSE NEIGHBOUR: 'it returns false'. Refute it at one input. -/
def meterSharesWrong : ChangeSpec := { name := "meterShares", fn := fun _ => fun
  | [d1, d2, d3] => { results := [.lit (.bool false)], args := [d1, d2, d3] }
  | _ => none }
def MeterSharesWrongFalsely : Prop := meterSharesRow.holds Try.pinned (OpenSpec.ofChange meterSharesWrong)

/-- 'haycroftlaw29.MeterBetween': WHATEVER THE INPUT: true; the input reads as it did. -/
def meterBetweenSpec : ChangeSpec := { name := "meterBetween", fn := fun _ => fun
  | [d] => { results := [.lit (.bool true)], args := [d] }
  | _ => none }
def meterBetweenRow : OpenClaim := { program := "ytojopmkekimpjaa", sum := "4bf8817c21246c7bfc481ddcdfafb5b9dab58ff1f2da17d0c12dd505b6f5bdc6", func := "haycroft/haycroftlaw29.MeterBetween", spec := "meterBetween", unfollowed := true, recurses := true, apart := false }
def MeterBetweenSaid : Prop := meterBetweenRow.holds Try.pinned (OpenSpec.ofChange meterBetweenSpec)

/-- ITS FALSE NEIGHBOUR: 'it returns false'. Refute it at one input. -/
def meterBetweenWrong : ChangeSpec := { name := "meterBetween", fn := fun _ => fun
  | [d] => { results := [.lit (.bool false)], args := [d] }
  | _ => none }
def MeterBetweenWrongFalsely : Prop := meterBetweenRow.holds Try.pinned (OpenSpec.ofChange meterBetweenWrong)

/-- 'haycroftlaw29.MeterRates': WHATEVER THE INPUT: true; the input reads as it did. -/
def meterRatesSpec : ChangeSpec := { name := "meterRates", fn := fun _ => fun
  | [d1, d2] => { results := [.lit (.bool true)], args := [d1, d2] }
  | _ => none }
def meterRatesRow : OpenClaim := { program := "ytojopmkekimpjaa", sum := "4bf8817c21246c7bfc481ddcdfafb5b9dab58ff1f2da17d0c12dd505b6f5bdc6", func := "haycroft/haycroftlaw29.MeterRates", spec := "meterRates", unfollowed := true, recurses := true, apart := false }
def MeterRatesSaid : Prop := meterRatesRow.holds Try.pinned (OpenSpec.ofChange meterRatesSpec)

/-- ITS FALSE NEIGHBOUR: 'it returns false'. Refute it at one input. -/
def meterRatesWrong : ChangeSpec := { name := "meterRates", fn := fun _ => fun
  | [d1, d2] => { results := [.lit (.bool false)], args := [d1, d2] }
  | _ => none }
def MeterRatesWrongFalsely : Prop := meterRatesRow.holds Try.pinned (OpenSpec.ofChange meterRatesWrong)

/-- 'haycroftlaw29.MeterCounts': WHATEVER THE INPUT: true; the input reads as it did. -/
def meterCountsSpec : ChangeSpec := { name := "meterCounts", fn := fun _ => fun
  | [d1, d2] => { results := [.lit (.bool true)], args := [d1, d2] }
  | _ => none }
def meterCountsRow : OpenClaim := { program := "ytojopmkekimpjaa", sum := "4bf8817c21246c7bfc481ddcdfafb5b9dab58ff1f2da17d0c12dd505b6f5bdc6", func := "haycroft/haycroftlaw29.MeterCounts", spec := "meterCounts", unfollowed := true, recurses := true, apart := false }
def MeterCountsSaid : Prop := meterCountsRow.holds Try.pinned (OpenSpec.ofChange meterCountsSpec)

/-- ITS FALSE NEIGHBOUR: 'it returns false'. Refute it at one input. -/
def meterCountsWrong : ChangeSpec := { name := "meterCounts", fn := fun _ => fun
  | [d1, d2] => { results := [.lit (.bool false)], args := [d1, d2] }
  | _ => none }
def MeterCountsWrongFalsely : Prop := meterCountsRow.holds Try.pinned (OpenSpec.ofChange meterCountsWrong)

/- THE SECOND FORM. 'bulk': how many values and letters a reading holds, each counted each time it is reached (what is shared counts as often as it is met; a slice's spare places count too). A statement '..UptoSaid' is the law's where the arguments, and the package variables that the reading takes, are together of bulk at most 1048576: NARROWER than '..Said'. Prove '..Said' where nothing that the law and all that it calls make is longer than what came in: it says more and counts as full. Else prove '..UptoSaid'. A law counts once. -/
mutual
def uptoBulk {H : Type} : DataW H → Nat
  | .lit (.string bytes) => bytes.length + 1
  | .lit _ => 1
  | .nil => 1
  | .ptr d => uptoBulk d + 1
  | .slice elems spare => uptoBulkAll elems + uptoBulkAll spare + 1
  | .agg parts => uptoBulkAll parts + 1
  | .iface _ d => uptoBulk d + 1
  | .map entries => uptoBulkEntries entries + 1
  | .held _ => 1
def uptoBulkAll {H : Type} : List (DataW H) → Nat
  | [] => 0
  | d :: r => uptoBulk d + uptoBulkAll r
def uptoBulkEntries {H : Type} : List (Lit × DataW H) → Nat
  | [] => 0
  | x :: r => uptoBulkEntry x + uptoBulkEntries r
def uptoBulkEntry {H : Type} : Lit × DataW H → Nat
  | (.string bytes, d) => bytes.length + uptoBulk d + 1
  | (_, d) => uptoBulk d + 1
 end
def uptoSmall : (H : Type) → List (DataW H) → Bool := fun _ ds => decide (uptoBulkAll ds ≤ 1048576)
def OpenSpec.upto (s : _root_.Go.ChangeSpec) : _root_.Go.OpenSpec := { _root_.Go.OpenSpec.ofChange s with cond := some uptoSmall }

/-- 'haycroftlaw29.MeterMeasures', WHERE WHAT IT READS IS OF BULK AT MOST 1048576: true; the input reads as it did. -/
def meterMeasuresUptoRow : OpenClaim := { program := "ytojopmkekimpjaa", sum := "4bf8817c21246c7bfc481ddcdfafb5b9dab58ff1f2da17d0c12dd505b6f5bdc6", func := "haycroft/haycroftlaw29.MeterMeasures", spec := "meterMeasures", unfollowed := true, recurses := true, apart := false, narrowed := true }
def MeterMeasuresUptoSaid : Prop := meterMeasuresUptoRow.holds Try.pinned (OpenSpec.upto meterMeasuresSpec)

/-- 'haycroftlaw29.MeterShares', WHERE WHAT IT READS IS OF BULK AT MOST 1048576: true; the input reads as it did. -/
def meterSharesUptoRow : OpenClaim := { program := "ytojopmkekimpjaa", sum := "4bf8817c21246c7bfc481ddcdfafb5b9dab58ff1f2da17d0c12dd505b6f5bdc6", func := "haycroft/haycroftlaw29.MeterShares", spec := "meterShares", unfollowed := true, recurses := true, apart := false, narrowed := true }
def MeterSharesUptoSaid : Prop := meterSharesUptoRow.holds Try.pinned (OpenSpec.upto meterSharesSpec)

/-- 'haycroftlaw29.MeterBetween', WHERE WHAT IT READS IS OF BULK AT MOST 1048576: true; the input reads as it did. -/
def meterBetweenUptoRow : OpenClaim := { program := "ytojopmkekimpjaa", sum := "4bf8817c21246c7bfc481ddcdfafb5b9dab58ff1f2da17d0c12dd505b6f5bdc6", func := "haycroft/haycroftlaw29.MeterBetween", spec := "meterBetween", unfollowed := true, recurses := true, apart := false, narrowed := true }
def MeterBetweenUptoSaid : Prop := meterBetweenUptoRow.holds Try.pinned (OpenSpec.upto meterBetweenSpec)

/-- 'haycroftlaw29.MeterRates', WHERE WHAT IT READS IS OF BULK AT MOST 1048576: true; the input reads as it did. -/
def meterRatesUptoRow : OpenClaim := { program := "ytojopmkekimpjaa", sum := "4bf8817c21246c7bfc481ddcdfafb5b9dab58ff1f2da17d0c12dd505b6f5bdc6", func := "haycroft/haycroftlaw29.MeterRates", spec := "meterRates", unfollowed := true, recurses := true, apart := false, narrowed := true }
def MeterRatesUptoSaid : Prop := meterRatesUptoRow.holds Try.pinned (OpenSpec.upto meterRatesSpec)

/-- 'haycroftlaw29.MeterCounts', WHERE WHAT IT READS IS OF BULK AT MOST 1048576: true; the input reads as it did. -/
def meterCountsUptoRow : OpenClaim := { program := "ytojopmkekimpjaa", sum := "4bf8817c21246c7bfc481ddcdfafb5b9dab58ff1f2da17d0c12dd505b6f5bdc6", func := "haycroft/haycroftlaw29.MeterCounts", spec := "meterCounts", unfollowed := true, recurses := true, apart := false, narrowed := true }
def MeterCountsUptoSaid : Prop := meterCountsUptoRow.holds Try.pinned (OpenSpec.upto meterCountsSpec)

end Rows
end Go.Proofs.Ytojopmkekimpjaa
