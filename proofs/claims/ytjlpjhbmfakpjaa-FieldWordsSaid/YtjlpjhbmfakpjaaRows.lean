/-
  No cell of these rows narrows 'for every input' (looked for: loops, veiled, ifaces, maps, wideKeys, modest, calm, conditions, laid).
  DERIVED. THE GIVEN ROWS OF THIS SEAT. 11 by the template 'for every input the law returns true; each argument reads behind the call as it read before'; 0 by the template 'total and deterministic' (their statements: YtjlpjhbmfakpjaaTotals.lean).
  GIVEN WITH THE SEED: the statements are not yours to turn. If you find one false, say at which input.
  Laid BY PROGRAM, IN A SANDBOX (cutbox-rows.mjs): the forced cells as the released guide's own fill.sh prints them over the translation 10be0a6ffd928dda… (all of the seat's roots in one cut). By AI agents, Wed Nov 11 2026. No macro, syntax, notation, axiom, sorry.
-/
import Derived.Test.YtjlpjhbmfakpjaaChecked
import GoSem.Claim
import GoSem.ClaimJoined
import GoSem.ClaimMapViews
import Derived.JoinedTies
import Derived.KernelRfl
namespace Go.Proofs.Ytjlpjhbmfakpjaa
/- THE CELL 'sum', in the pinned program and in every row, IS THE sha256 OF THE DUMP (.gsa) THAT YtjlpjhbmfakpjaaProg.lean LOADS. Nothing in Lean hashes anything: it is a label: what it is worth is what the hold of that sum in a sandbox is worth. -/
noncomputable def Try.pinned : Pinned := { name := "ytjlpjhbmfakpjaa", sum := "10be0a6ffd928dda4593899703fd9da5be53bc4dd30fc241604d9d9ad607e047", checked := Try.checked }
namespace Rows
def none {H : Type} : Left H := { results := [], args := [] }

/-- 'haycroftlaw01.FieldGets': WHATEVER THE INPUT: true; the input reads as it did. -/
def fieldGetsSpec : ChangeSpec := { name := "fieldGets", fn := fun _ => fun
  | [d1, d2, d3, d4] => { results := [.lit (.bool true)], args := [d1, d2, d3, d4] }
  | _ => none }
def fieldGetsRow : OpenClaim := { program := "ytjlpjhbmfakpjaa", sum := "10be0a6ffd928dda4593899703fd9da5be53bc4dd30fc241604d9d9ad607e047", func := "haycroft/haycroftlaw01.FieldGets", spec := "fieldGets", apart := false }
def FieldGetsSaid : Prop := fieldGetsRow.holds Try.pinned (OpenSpec.ofChange fieldGetsSpec)

/-- ITS FALSE NEIGHBOUR: 'it returns false'. Refute it at one input. -/
def fieldGetsWrong : ChangeSpec := { name := "fieldGets", fn := fun _ => fun
  | [d1, d2, d3, d4] => { results := [.lit (.bool false)], args := [d1, d2, d3, d4] }
  | _ => none }
def FieldGetsWrongFalsely : Prop := fieldGetsRow.holds Try.pinned (OpenSpec.ofChange fieldGetsWrong)

/-- 'haycroftlaw01.FieldBack': WHATEVER THE INPUT: true; the input reads as it did. -/
def fieldBackSpec : ChangeSpec := { name := "fieldBack", fn := fun _ => fun
  | [d1, d2, d3, d4, d5, d6] => { results := [.lit (.bool true)], args := [d1, d2, d3, d4, d5, d6] }
  | _ => none }
def fieldBackRow : OpenClaim := { program := "ytjlpjhbmfakpjaa", sum := "10be0a6ffd928dda4593899703fd9da5be53bc4dd30fc241604d9d9ad607e047", func := "haycroft/haycroftlaw01.FieldBack", spec := "fieldBack", apart := false }
def FieldBackSaid : Prop := fieldBackRow.holds Try.pinned (OpenSpec.ofChange fieldBackSpec)

/-- ITS FALSE NEIGHBOUR: 'it returns false'. Refute it at one input. -/
def fieldBackWrong : ChangeSpec := { name := "fieldBack", fn := fun _ => fun
  | [d1, d2, d3, d4, d5, d6] => { results := [.lit (.bool false)], args := [d1, d2, d3, d4, d5, d6] }
  | _ => none }
def FieldBackWrongFalsely : Prop := fieldBackRow.holds Try.pinned (OpenSpec.ofChange fieldBackWrong)

/-- 'haycroftlaw02.PlaceParts': WHATEVER THE INPUT: true; the input reads as it did. -/
def placePartsSpec : ChangeSpec := { name := "placeParts", fn := fun _ => fun
  | [d1, d2] => { results := [.lit (.bool true)], args := [d1, d2] }
  | _ => none }
def placePartsRow : OpenClaim := { program := "ytjlpjhbmfakpjaa", sum := "10be0a6ffd928dda4593899703fd9da5be53bc4dd30fc241604d9d9ad607e047", func := "haycroft/haycroftlaw02.PlaceParts", spec := "placeParts", apart := false }
def PlacePartsSaid : Prop := placePartsRow.holds Try.pinned (OpenSpec.ofChange placePartsSpec)

/-- ITS FALSE NEIGHBOUR: 'it returns false'. Refute it at one input. -/
def placePartsWrong : ChangeSpec := { name := "placeParts", fn := fun _ => fun
  | [d1, d2] => { results := [.lit (.bool false)], args := [d1, d2] }
  | _ => none }
def PlacePartsWrongFalsely : Prop := placePartsRow.holds Try.pinned (OpenSpec.ofChange placePartsWrong)

/-- 'haycroftlaw07.DrainOnce': WHATEVER THE INPUT: true; the input reads as it did. -/
def drainOnceSpec : ChangeSpec := { name := "drainOnce", fn := fun _ => fun
  | [d1, d2] => { results := [.lit (.bool true)], args := [d1, d2] }
  | _ => none }
def drainOnceRow : OpenClaim := { program := "ytjlpjhbmfakpjaa", sum := "10be0a6ffd928dda4593899703fd9da5be53bc4dd30fc241604d9d9ad607e047", func := "haycroft/haycroftlaw07.DrainOnce", spec := "drainOnce", apart := false }
def DrainOnceSaid : Prop := drainOnceRow.holds Try.pinned (OpenSpec.ofChange drainOnceSpec)

/-- ITS FALSE NEIGHBOUR: 'it returns false'. Refute it at one input. -/
def drainOnceWrong : ChangeSpec := { name := "drainOnce", fn := fun _ => fun
  | [d1, d2] => { results := [.lit (.bool false)], args := [d1, d2] }
  | _ => none }
def DrainOnceWrongFalsely : Prop := drainOnceRow.holds Try.pinned (OpenSpec.ofChange drainOnceWrong)

/-- 'haycroftlaw01.FieldFlags': WHATEVER THE INPUT: true; the input reads as it did. -/
def fieldFlagsSpec : ChangeSpec := { name := "fieldFlags", fn := fun _ => fun
  | [d1, d2, d3] => { results := [.lit (.bool true)], args := [d1, d2, d3] }
  | _ => none }
def fieldFlagsRow : OpenClaim := { program := "ytjlpjhbmfakpjaa", sum := "10be0a6ffd928dda4593899703fd9da5be53bc4dd30fc241604d9d9ad607e047", func := "haycroft/haycroftlaw01.FieldFlags", spec := "fieldFlags", apart := false }
def FieldFlagsSaid : Prop := fieldFlagsRow.holds Try.pinned (OpenSpec.ofChange fieldFlagsSpec)

/-- ITS FALSE NEIGHBOUR: 'it returns false'. Refute it at one input. -/
def fieldFlagsWrong : ChangeSpec := { name := "fieldFlags", fn := fun _ => fun
  | [d1, d2, d3] => { results := [.lit (.bool false)], args := [d1, d2, d3] }
  | _ => none }
def FieldFlagsWrongFalsely : Prop := fieldFlagsRow.holds Try.pinned (OpenSpec.ofChange fieldFlagsWrong)

/-- 'haycroftlaw01.FieldWords': WHATEVER THE INPUT: true; the input reads as it did. -/
def fieldWordsSpec : ChangeSpec := { name := "fieldWords", fn := fun _ => fun
  | [d1, d2, d3] => { results := [.lit (.bool true)], args := [d1, d2, d3] }
  | _ => none }
def fieldWordsRow : OpenClaim := { program := "ytjlpjhbmfakpjaa", sum := "10be0a6ffd928dda4593899703fd9da5be53bc4dd30fc241604d9d9ad607e047", func := "haycroft/haycroftlaw01.FieldWords", spec := "fieldWords", apart := false }
def FieldWordsSaid : Prop := fieldWordsRow.holds Try.pinned (OpenSpec.ofChange fieldWordsSpec)

/-- ITS FALSE NEIGHBOUR: 'it returns false'. Refute it at one input. -/
def fieldWordsWrong : ChangeSpec := { name := "fieldWords", fn := fun _ => fun
  | [d1, d2, d3] => { results := [.lit (.bool false)], args := [d1, d2, d3] }
  | _ => none }
def FieldWordsWrongFalsely : Prop := fieldWordsRow.holds Try.pinned (OpenSpec.ofChange fieldWordsWrong)

/-- 'haycroftlaw02.PlaceAdds': WHATEVER THE INPUT: true; the input reads as it did. -/
def placeAddsSpec : ChangeSpec := { name := "placeAdds", fn := fun _ => fun
  | [d1, d2, d3] => { results := [.lit (.bool true)], args := [d1, d2, d3] }
  | _ => none }
def placeAddsRow : OpenClaim := { program := "ytjlpjhbmfakpjaa", sum := "10be0a6ffd928dda4593899703fd9da5be53bc4dd30fc241604d9d9ad607e047", func := "haycroft/haycroftlaw02.PlaceAdds", spec := "placeAdds", apart := false }
def PlaceAddsSaid : Prop := placeAddsRow.holds Try.pinned (OpenSpec.ofChange placeAddsSpec)

/-- ITS FALSE NEIGHBOUR: 'it returns false'. Refute it at one input. -/
def placeAddsWrong : ChangeSpec := { name := "placeAdds", fn := fun _ => fun
  | [d1, d2, d3] => { results := [.lit (.bool false)], args := [d1, d2, d3] }
  | _ => none }
def PlaceAddsWrongFalsely : Prop := placeAddsRow.holds Try.pinned (OpenSpec.ofChange placeAddsWrong)

/-- 'haycroftlaw07.DrainPlays': WHATEVER THE INPUT: true; the input reads as it did. -/
def drainPlaysSpec : ChangeSpec := { name := "drainPlays", fn := fun _ => fun
  | [d] => { results := [.lit (.bool true)], args := [d] }
  | _ => none }
def drainPlaysRow : OpenClaim := { program := "ytjlpjhbmfakpjaa", sum := "10be0a6ffd928dda4593899703fd9da5be53bc4dd30fc241604d9d9ad607e047", func := "haycroft/haycroftlaw07.DrainPlays", spec := "drainPlays", apart := false }
def DrainPlaysSaid : Prop := drainPlaysRow.holds Try.pinned (OpenSpec.ofChange drainPlaysSpec)

/-- ITS FALSE NEIGHBOUR: 'it returns false'. Refute it at one input. -/
def drainPlaysWrong : ChangeSpec := { name := "drainPlays", fn := fun _ => fun
  | [d] => { results := [.lit (.bool false)], args := [d] }
  | _ => none }
def DrainPlaysWrongFalsely : Prop := drainPlaysRow.holds Try.pinned (OpenSpec.ofChange drainPlaysWrong)

/-- 'haycroftlaw07.DrainNil': WHATEVER THE INPUT: true; the input reads as it did. -/
def drainNilSpec : ChangeSpec := { name := "drainNil", fn := fun _ => fun
  | [d] => { results := [.lit (.bool true)], args := [d] }
  | _ => none }
def drainNilRow : OpenClaim := { program := "ytjlpjhbmfakpjaa", sum := "10be0a6ffd928dda4593899703fd9da5be53bc4dd30fc241604d9d9ad607e047", func := "haycroft/haycroftlaw07.DrainNil", spec := "drainNil", apart := false }
def DrainNilSaid : Prop := drainNilRow.holds Try.pinned (OpenSpec.ofChange drainNilSpec)

/-- ITS FALSE NEIGHBOUR: 'it returns false'. Refute it at one input. -/
def drainNilWrong : ChangeSpec := { name := "drainNil", fn := fun _ => fun
  | [d] => { results := [.lit (.bool false)], args := [d] }
  | _ => none }
def DrainNilWrongFalsely : Prop := drainNilRow.holds Try.pinned (OpenSpec.ofChange drainNilWrong)

/-- 'haycroftlaw02.PlaceOf': WHATEVER THE INPUT: true; the input reads as it did. -/
def placeOfSpec : ChangeSpec := { name := "placeOf", fn := fun _ => fun
  | [d1, d2, d3, d4] => { results := [.lit (.bool true)], args := [d1, d2, d3, d4] }
  | _ => none }
def placeOfRow : OpenClaim := { program := "ytjlpjhbmfakpjaa", sum := "10be0a6ffd928dda4593899703fd9da5be53bc4dd30fc241604d9d9ad607e047", func := "haycroft/haycroftlaw02.PlaceOf", spec := "placeOf", apart := false }
def PlaceOfSaid : Prop := placeOfRow.holds Try.pinned (OpenSpec.ofChange placeOfSpec)

/-- ITS FALSE NEIGHBOUR: 'it returns false'. Refute it at one input. -/
def placeOfWrong : ChangeSpec := { name := "placeOf", fn := fun _ => fun
  | [d1, d2, d3, d4] => { results := [.lit (.bool false)], args := [d1, d2, d3, d4] }
  | _ => none }
def PlaceOfWrongFalsely : Prop := placeOfRow.holds Try.pinned (OpenSpec.ofChange placeOfWrong)

/-- 'haycroftlaw01.FieldJoins': WHATEVER THE INPUT: true; the input reads as it did. -/
def fieldJoinsSpec : ChangeSpec := { name := "fieldJoins", fn := fun _ => fun
  | [d1, d2, d3] => { results := [.lit (.bool true)], args := [d1, d2, d3] }
  | _ => none }
def fieldJoinsRow : OpenClaim := { program := "ytjlpjhbmfakpjaa", sum := "10be0a6ffd928dda4593899703fd9da5be53bc4dd30fc241604d9d9ad607e047", func := "haycroft/haycroftlaw01.FieldJoins", spec := "fieldJoins", apart := false }
def FieldJoinsSaid : Prop := fieldJoinsRow.holds Try.pinned (OpenSpec.ofChange fieldJoinsSpec)

/-- ITS FALSE NEIGHBOUR: 'it returns false'. Refute it at one input. -/
def fieldJoinsWrong : ChangeSpec := { name := "fieldJoins", fn := fun _ => fun
  | [d1, d2, d3] => { results := [.lit (.bool false)], args := [d1, d2, d3] }
  | _ => none }
def FieldJoinsWrongFalsely : Prop := fieldJoinsRow.holds Try.pinned (OpenSpec.ofChange fieldJoinsWrong)

/- THE SECOND FORM. 'bulk': how many values and letters a reading holds, each counted each time it is reached (what is shared counts as often as it is met; a slice's spare places count too). A statement '..UptoSaid' is the law's where the arguments, and the package variables that the reading takes, are together of bulk at most 1048576: NARROWER than '..Said'. Prove '..Said' where nothing that the law and all that it calls make is longer than what came in: it says more and counts as full. Else prove '..UptoSaid'. A law counts once. -/
mutual
def uptoBulk {H : Type} : DataW H → Nat
  | .lit (.string bytes) => bytes.length + 1
  | .lit _ => 1
  | .nil => 1
  | .ptr d => uptoBulk d + 1
  | .slice elems spare => uptoBulkAll elems + uptoBulkAll spare + 1
  | .agg parts => uptoBulkAll parts + 1
  | .iface _ d => uptoBulk d + 1
  | .map entries => uptoBulkEntries entries + 1
  | .held _ => 1
def uptoBulkAll {H : Type} : List (DataW H) → Nat
  | [] => 0
  | d :: r => uptoBulk d + uptoBulkAll r
def uptoBulkEntries {H : Type} : List (Lit × DataW H) → Nat
  | [] => 0
  | x :: r => uptoBulkEntry x + uptoBulkEntries r
def uptoBulkEntry {H : Type} : Lit × DataW H → Nat
  | (.string bytes, d) => bytes.length + uptoBulk d + 1
  | (_, d) => uptoBulk d + 1
 end
def uptoSmall : (H : Type) → List (DataW H) → Bool := fun _ ds => decide (uptoBulkAll ds ≤ 1048576)
def OpenSpec.upto (s : _root_.Go.ChangeSpec) : _root_.Go.OpenSpec := { _root_.Go.OpenSpec.ofChange s with cond := some uptoSmall }

/-- 'haycroftlaw01.FieldGets', WHERE WHAT IT READS IS OF BULK AT MOST 1048576: true; the input reads as it did. -/
def fieldGetsUptoRow : OpenClaim := { program := "ytjlpjhbmfakpjaa", sum := "10be0a6ffd928dda4593899703fd9da5be53bc4dd30fc241604d9d9ad607e047", func := "haycroft/haycroftlaw01.FieldGets", spec := "fieldGets", apart := false, narrowed := true }
def FieldGetsUptoSaid : Prop := fieldGetsUptoRow.holds Try.pinned (OpenSpec.upto fieldGetsSpec)

/-- 'haycroftlaw01.FieldBack', WHERE WHAT IT READS IS OF BULK AT MOST 1048576: true; the input reads as it did. -/
def fieldBackUptoRow : OpenClaim := { program := "ytjlpjhbmfakpjaa", sum := "10be0a6ffd928dda4593899703fd9da5be53bc4dd30fc241604d9d9ad607e047", func := "haycroft/haycroftlaw01.FieldBack", spec := "fieldBack", apart := false, narrowed := true }
def FieldBackUptoSaid : Prop := fieldBackUptoRow.holds Try.pinned (OpenSpec.upto fieldBackSpec)

/-- 'haycroftlaw02.PlaceParts', WHERE WHAT IT READS IS OF BULK AT MOST 1048576: true; the input reads as it did. -/
def placePartsUptoRow : OpenClaim := { program := "ytjlpjhbmfakpjaa", sum := "10be0a6ffd928dda4593899703fd9da5be53bc4dd30fc241604d9d9ad607e047", func := "haycroft/haycroftlaw02.PlaceParts", spec := "placeParts", apart := false, narrowed := true }
def PlacePartsUptoSaid : Prop := placePartsUptoRow.holds Try.pinned (OpenSpec.upto placePartsSpec)

/-- 'haycroftlaw07.DrainOnce', WHERE WHAT IT READS IS OF BULK AT MOST 1048576: true; the input reads as it did. -/
def drainOnceUptoRow : OpenClaim := { program := "ytjlpjhbmfakpjaa", sum := "10be0a6ffd928dda4593899703fd9da5be53bc4dd30fc241604d9d9ad607e047", func := "haycroft/haycroftlaw07.DrainOnce", spec := "drainOnce", apart := false, narrowed := true }
def DrainOnceUptoSaid : Prop := drainOnceUptoRow.holds Try.pinned (OpenSpec.upto drainOnceSpec)

/-- 'haycroftlaw01.FieldFlags', WHERE WHAT IT READS IS OF BULK AT MOST 1048576: true; the input reads as it did. -/
def fieldFlagsUptoRow : OpenClaim := { program := "ytjlpjhbmfakpjaa", sum := "10be0a6ffd928dda4593899703fd9da5be53bc4dd30fc241604d9d9ad607e047", func := "haycroft/haycroftlaw01.FieldFlags", spec := "fieldFlags", apart := false, narrowed := true }
def FieldFlagsUptoSaid : Prop := fieldFlagsUptoRow.holds Try.pinned (OpenSpec.upto fieldFlagsSpec)

/-- 'haycroftlaw01.FieldWords', WHERE WHAT IT READS IS OF BULK AT MOST 1048576: true; the input reads as it did. -/
def fieldWordsUptoRow : OpenClaim := { program := "ytjlpjhbmfakpjaa", sum := "10be0a6ffd928dda4593899703fd9da5be53bc4dd30fc241604d9d9ad607e047", func := "haycroft/haycroftlaw01.FieldWords", spec := "fieldWords", apart := false, narrowed := true }
def FieldWordsUptoSaid : Prop := fieldWordsUptoRow.holds Try.pinned (OpenSpec.upto fieldWordsSpec)

/-- 'haycroftlaw02.PlaceAdds', WHERE WHAT IT READS IS OF BULK AT MOST 1048576: true; the input reads as it did. -/
def placeAddsUptoRow : OpenClaim := { program := "ytjlpjhbmfakpjaa", sum := "10be0a6ffd928dda4593899703fd9da5be53bc4dd30fc241604d9d9ad607e047", func := "haycroft/haycroftlaw02.PlaceAdds", spec := "placeAdds", apart := false, narrowed := true }
def PlaceAddsUptoSaid : Prop := placeAddsUptoRow.holds Try.pinned (OpenSpec.upto placeAddsSpec)

/-- 'haycroftlaw07.DrainPlays', WHERE WHAT IT READS IS OF BULK AT MOST 1048576: true; the input reads as it did. -/
def drainPlaysUptoRow : OpenClaim := { program := "ytjlpjhbmfakpjaa", sum := "10be0a6ffd928dda4593899703fd9da5be53bc4dd30fc241604d9d9ad607e047", func := "haycroft/haycroftlaw07.DrainPlays", spec := "drainPlays", apart := false, narrowed := true }
def DrainPlaysUptoSaid : Prop := drainPlaysUptoRow.holds Try.pinned (OpenSpec.upto drainPlaysSpec)

/-- 'haycroftlaw07.DrainNil', WHERE WHAT IT READS IS OF BULK AT MOST 1048576: true; the input reads as it did. -/
def drainNilUptoRow : OpenClaim := { program := "ytjlpjhbmfakpjaa", sum := "10be0a6ffd928dda4593899703fd9da5be53bc4dd30fc241604d9d9ad607e047", func := "haycroft/haycroftlaw07.DrainNil", spec := "drainNil", apart := false, narrowed := true }
def DrainNilUptoSaid : Prop := drainNilUptoRow.holds Try.pinned (OpenSpec.upto drainNilSpec)

/-- 'haycroftlaw02.PlaceOf', WHERE WHAT IT READS IS OF BULK AT MOST 1048576: true; the input reads as it did. -/
def placeOfUptoRow : OpenClaim := { program := "ytjlpjhbmfakpjaa", sum := "10be0a6ffd928dda4593899703fd9da5be53bc4dd30fc241604d9d9ad607e047", func := "haycroft/haycroftlaw02.PlaceOf", spec := "placeOf", apart := false, narrowed := true }
def PlaceOfUptoSaid : Prop := placeOfUptoRow.holds Try.pinned (OpenSpec.upto placeOfSpec)

/-- 'haycroftlaw01.FieldJoins', WHERE WHAT IT READS IS OF BULK AT MOST 1048576: true; the input reads as it did. -/
def fieldJoinsUptoRow : OpenClaim := { program := "ytjlpjhbmfakpjaa", sum := "10be0a6ffd928dda4593899703fd9da5be53bc4dd30fc241604d9d9ad607e047", func := "haycroft/haycroftlaw01.FieldJoins", spec := "fieldJoins", apart := false, narrowed := true }
def FieldJoinsUptoSaid : Prop := fieldJoinsUptoRow.holds Try.pinned (OpenSpec.upto fieldJoinsSpec)

end Rows
end Go.Proofs.Ytjlpjhbmfakpjaa
