/-
  No cell of these rows narrows 'for every input' (looked for: loops, veiled, ifaces, maps, wideKeys, modest, calm, conditions, laid).
  DERIVED. THE GIVEN ROWS OF THIS SEAT. 8 by the template 'for every input the law returns true; each argument reads behind the call as it read before'; 0 by the template 'total and deterministic' (their statements: YtjoicobfjpaepaaTotals.lean).
  GIVEN WITH THE SEED: the statements are not yours to turn. If you find one false, say at which input.
  Laid BY PROGRAM, IN A SANDBOX (cutbox-rows.mjs): the forced cells as the released guide's own fill.sh prints them over the translation 8d79c985321fe14f… (all of the seat's roots in one cut). By AI agents, Wed Nov 11 2026. No macro, syntax, notation, axiom, sorry.
-/
import Derived.Test.YtjoicobfjpaepaaChecked
import GoSem.Claim
import GoSem.ClaimJoined
import GoSem.ClaimMapViews
import Derived.JoinedTies
import Derived.KernelRfl
namespace Go.Proofs.Ytjoicobfjpaepaa
/- THE CELL 'sum', in the pinned program and in every row, IS THE sha256 OF THE DUMP (.gsa) THAT YtjoicobfjpaepaaProg.lean LOADS. Nothing in Lean hashes anything: it is a label: what it is worth is what the hold of that sum in a sandbox is worth. -/
noncomputable def Try.pinned : Pinned := { name := "ytjoicobfjpaepaa", sum := "8d79c985321fe14f4ca31641a87f268e9bbbaf79e4cc80fd969203631e9cfb6b", checked := Try.checked }
namespace Rows
def none {H : Type} : Left H := { results := [], args := [] }

/-- 'haycroftlaw17.IndexOnce': WHATEVER THE INPUT: true; the input reads as it did. -/
def indexOnceSpec : ChangeSpec := { name := "indexOnce", fn := fun _ => fun
  | [d1, d2, d3] => { results := [.lit (.bool true)], args := [d1, d2, d3] }
  | _ => none }
def indexOnceRow : OpenClaim := { program := "ytjoicobfjpaepaa", sum := "8d79c985321fe14f4ca31641a87f268e9bbbaf79e4cc80fd969203631e9cfb6b", func := "haycroft/haycroftlaw17.IndexOnce", spec := "indexOnce", inPlace := ["sync/atomic.LoadUint64", "sync/atomic.CompareAndSwapUint64", "sync/atomic.AddInt64", "sync/atomic.StoreUint64", "sync/atomic.AddUint64"], unfollowed := true, recurses := true, apart := false }
def IndexOnceSaid : Prop := indexOnceRow.holds Try.pinned (OpenSpec.ofChange indexOnceSpec)

/-- ITS FALSE NEIGHBOUR: 'it returns false'. Refute it at one input. -/
def indexOnceWrong : ChangeSpec := { name := "indexOnce", fn := fun _ => fun
  | [d1, d2, d3] => { results := [.lit (.bool false)], args := [d1, d2, d3] }
  | _ => none }
def IndexOnceWrongFalsely : Prop := indexOnceRow.holds Try.pinned (OpenSpec.ofChange indexOnceWrong)

/-- 'haycroftlaw17.IndexNil': WHATEVER THE INPUT: true; the input reads as it did. -/
def indexNilSpec : ChangeSpec := { name := "indexNil", fn := fun _ => fun
  | [d1, d2] => { results := [.lit (.bool true)], args := [d1, d2] }
  | _ => none }
def indexNilRow : OpenClaim := { program := "ytjoicobfjpaepaa", sum := "8d79c985321fe14f4ca31641a87f268e9bbbaf79e4cc80fd969203631e9cfb6b", func := "haycroft/haycroftlaw17.IndexNil", spec := "indexNil", inPlace := ["sync/atomic.LoadUint64", "sync/atomic.CompareAndSwapUint64", "sync/atomic.AddInt64", "sync/atomic.AddUint64", "sync/atomic.LoadInt64", "sync/atomic.StoreUint64"], unfollowed := true, recurses := true, apart := false }
def IndexNilSaid : Prop := indexNilRow.holds Try.pinned (OpenSpec.ofChange indexNilSpec)

/-- ITS FALSE NEIGHBOUR: 'it returns false'. Refute it at one input. -/
def indexNilWrong : ChangeSpec := { name := "indexNil", fn := fun _ => fun
  | [d1, d2] => { results := [.lit (.bool false)], args := [d1, d2] }
  | _ => none }
def IndexNilWrongFalsely : Prop := indexNilRow.holds Try.pinned (OpenSpec.ofChange indexNilWrong)

/-- 'haycroftlaw33.GrowNil': WHATEVER THE INPUT: true; the input reads as it did. -/
def growNilSpec : ChangeSpec := { name := "growNil", fn := fun _ => fun
  | [d1, d2, d3] => { results := [.lit (.bool true)], args := [d1, d2, d3] }
  | _ => none }
def growNilRow : OpenClaim := { program := "ytjoicobfjpaepaa", sum := "8d79c985321fe14f4ca31641a87f268e9bbbaf79e4cc80fd969203631e9cfb6b", func := "haycroft/haycroftlaw33.GrowNil", spec := "growNil", inPlace := ["sync/atomic.LoadUint64", "sync/atomic.CompareAndSwapUint64", "sync/atomic.AddInt64", "sync/atomic.AddUint64"], unfollowed := true, recurses := true, apart := false }
def GrowNilSaid : Prop := growNilRow.holds Try.pinned (OpenSpec.ofChange growNilSpec)

/-- ITS FALSE NEIGHBOUR: 'it returns false'. Refute it at one input. -/
def growNilWrong : ChangeSpec := { name := "growNil", fn := fun _ => fun
  | [d1, d2, d3] => { results := [.lit (.bool false)], args := [d1, d2, d3] }
  | _ => none }
def GrowNilWrongFalsely : Prop := growNilRow.holds Try.pinned (OpenSpec.ofChange growNilWrong)

/-- 'haycroftlaw33.GrowFinds': WHATEVER THE INPUT: true; the input reads as it did. -/
def growFindsSpec : ChangeSpec := { name := "growFinds", fn := fun _ => fun
  | [d1, d2, d3, d4] => { results := [.lit (.bool true)], args := [d1, d2, d3, d4] }
  | _ => none }
def growFindsRow : OpenClaim := { program := "ytjoicobfjpaepaa", sum := "8d79c985321fe14f4ca31641a87f268e9bbbaf79e4cc80fd969203631e9cfb6b", func := "haycroft/haycroftlaw33.GrowFinds", spec := "growFinds", inPlace := ["sync/atomic.LoadUint64", "sync/atomic.CompareAndSwapUint64", "sync/atomic.AddInt64", "sync/atomic.AddUint64", "sync/atomic.StoreUint64"], unfollowed := true, recurses := true, apart := false }
def GrowFindsSaid : Prop := growFindsRow.holds Try.pinned (OpenSpec.ofChange growFindsSpec)

/-- ITS FALSE NEIGHBOUR: 'it returns false'. Refute it at one input. -/
def growFindsWrong : ChangeSpec := { name := "growFinds", fn := fun _ => fun
  | [d1, d2, d3, d4] => { results := [.lit (.bool false)], args := [d1, d2, d3, d4] }
  | _ => none }
def GrowFindsWrongFalsely : Prop := growFindsRow.holds Try.pinned (OpenSpec.ofChange growFindsWrong)

/-- 'haycroftlaw33.GrowParts': WHATEVER THE INPUT: true; the input reads as it did. -/
def growPartsSpec : ChangeSpec := { name := "growParts", fn := fun _ => fun
  | [d1, d2, d3, d4, d5, d6] => { results := [.lit (.bool true)], args := [d1, d2, d3, d4, d5, d6] }
  | _ => none }
def growPartsRow : OpenClaim := { program := "ytjoicobfjpaepaa", sum := "8d79c985321fe14f4ca31641a87f268e9bbbaf79e4cc80fd969203631e9cfb6b", func := "haycroft/haycroftlaw33.GrowParts", spec := "growParts", inPlace := ["sync/atomic.LoadUint64", "sync/atomic.CompareAndSwapUint64", "sync/atomic.AddInt64", "sync/atomic.AddUint64", "sync/atomic.StoreUint64"], unfollowed := true, recurses := true, apart := false }
def GrowPartsSaid : Prop := growPartsRow.holds Try.pinned (OpenSpec.ofChange growPartsSpec)

/-- ITS FALSE NEIGHBOUR: 'it returns false'. Refute it at one input. -/
def growPartsWrong : ChangeSpec := { name := "growParts", fn := fun _ => fun
  | [d1, d2, d3, d4, d5, d6] => { results := [.lit (.bool false)], args := [d1, d2, d3, d4, d5, d6] }
  | _ => none }
def GrowPartsWrongFalsely : Prop := growPartsRow.holds Try.pinned (OpenSpec.ofChange growPartsWrong)

/-- 'haycroftlaw18.InplaceMay': WHATEVER THE INPUT: true; the input reads as it did. -/
def inplaceMaySpec : ChangeSpec := { name := "inplaceMay", fn := fun _ => fun
  | [d1, d2, d3, d4] => { results := [.lit (.bool true)], args := [d1, d2, d3, d4] }
  | _ => none }
def inplaceMayRow : OpenClaim := { program := "ytjoicobfjpaepaa", sum := "8d79c985321fe14f4ca31641a87f268e9bbbaf79e4cc80fd969203631e9cfb6b", func := "haycroft/haycroftlaw18.InplaceMay", spec := "inplaceMay", inPlace := ["sync/atomic.LoadUint64", "sync/atomic.CompareAndSwapUint64", "sync/atomic.AddInt64", "sync/atomic.StoreUint64"], apart := false }
def InplaceMaySaid : Prop := inplaceMayRow.holds Try.pinned (OpenSpec.ofChange inplaceMaySpec)

/-- ITS FALSE NEIGHBOUR: 'it returns false'. Refute it at one input. -/
def inplaceMayWrong : ChangeSpec := { name := "inplaceMay", fn := fun _ => fun
  | [d1, d2, d3, d4] => { results := [.lit (.bool false)], args := [d1, d2, d3, d4] }
  | _ => none }
def InplaceMayWrongFalsely : Prop := inplaceMayRow.holds Try.pinned (OpenSpec.ofChange inplaceMayWrong)

/-- 'haycroftlaw18.InplaceSums': WHATEVER THE INPUT: true; the input reads as it did. -/
def inplaceSumsSpec : ChangeSpec := { name := "inplaceSums", fn := fun _ => fun
  | [d1, d2, d3, d4] => { results := [.lit (.bool true)], args := [d1, d2, d3, d4] }
  | _ => none }
def inplaceSumsRow : OpenClaim := { program := "ytjoicobfjpaepaa", sum := "8d79c985321fe14f4ca31641a87f268e9bbbaf79e4cc80fd969203631e9cfb6b", func := "haycroft/haycroftlaw18.InplaceSums", spec := "inplaceSums", inPlace := ["sync/atomic.LoadUint64", "sync/atomic.CompareAndSwapUint64", "sync/atomic.AddInt64", "sync/atomic.StoreUint64"], apart := false }
def InplaceSumsSaid : Prop := inplaceSumsRow.holds Try.pinned (OpenSpec.ofChange inplaceSumsSpec)

/-- ITS FALSE NEIGHBOUR: 'it returns false'. Refute it at one input. -/
def inplaceSumsWrong : ChangeSpec := { name := "inplaceSums", fn := fun _ => fun
  | [d1, d2, d3, d4] => { results := [.lit (.bool false)], args := [d1, d2, d3, d4] }
  | _ => none }
def InplaceSumsWrongFalsely : Prop := inplaceSumsRow.holds Try.pinned (OpenSpec.ofChange inplaceSumsWrong)

/-- 'haycroftlaw18.InplacePlays': WHATEVER THE INPUT: true; the input reads as it did. -/
def inplacePlaysSpec : ChangeSpec := { name := "inplacePlays", fn := fun _ => fun
  | [d1, d2, d3] => { results := [.lit (.bool true)], args := [d1, d2, d3] }
  | _ => none }
def inplacePlaysRow : OpenClaim := { program := "ytjoicobfjpaepaa", sum := "8d79c985321fe14f4ca31641a87f268e9bbbaf79e4cc80fd969203631e9cfb6b", func := "haycroft/haycroftlaw18.InplacePlays", spec := "inplacePlays", inPlace := ["sync/atomic.LoadUint64", "sync/atomic.CompareAndSwapUint64", "sync/atomic.AddInt64", "sync/atomic.StoreUint64"], apart := false }
def InplacePlaysSaid : Prop := inplacePlaysRow.holds Try.pinned (OpenSpec.ofChange inplacePlaysSpec)

/-- ITS FALSE NEIGHBOUR: 'it returns false'. Refute it at one input. -/
def inplacePlaysWrong : ChangeSpec := { name := "inplacePlays", fn := fun _ => fun
  | [d1, d2, d3] => { results := [.lit (.bool false)], args := [d1, d2, d3] }
  | _ => none }
def InplacePlaysWrongFalsely : Prop := inplacePlaysRow.holds Try.pinned (OpenSpec.ofChange inplacePlaysWrong)

/- THE SECOND FORM. 'bulk': how many values and letters a reading holds, each counted each time it is reached (what is shared counts as often as it is met; a slice's spare places count too). A statement '..UptoSaid' is the law's where the arguments, and the package variables that the reading takes, are together of bulk at most 1048576: NARROWER than '..Said'. Prove '..Said' where nothing that the law and all that it calls make is longer than what came in: it says more and counts as full. Else prove '..UptoSaid'. A law counts once. -/
mutual
def uptoBulk {H : Type} : DataW H → Nat
  | .lit (.string bytes) => bytes.length + 1
  | .lit _ => 1
  | .nil => 1
  | .ptr d => uptoBulk d + 1
  | .slice elems spare => uptoBulkAll elems + uptoBulkAll spare + 1
  | .agg parts => uptoBulkAll parts + 1
  | .iface _ d => uptoBulk d + 1
  | .map entries => uptoBulkEntries entries + 1
  | .held _ => 1
def uptoBulkAll {H : Type} : List (DataW H) → Nat
  | [] => 0
  | d :: r => uptoBulk d + uptoBulkAll r
def uptoBulkEntries {H : Type} : List (Lit × DataW H) → Nat
  | [] => 0
  | x :: r => uptoBulkEntry x + uptoBulkEntries r
def uptoBulkEntry {H : Type} : Lit × DataW H → Nat
  | (.string bytes, d) => bytes.length + uptoBulk d + 1
  | (_, d) => uptoBulk d + 1
 end
def uptoSmall : (H : Type) → List (DataW H) → Bool := fun _ ds => decide (uptoBulkAll ds ≤ 1048576)
def OpenSpec.upto (s : _root_.Go.ChangeSpec) : _root_.Go.OpenSpec := { _root_.Go.OpenSpec.ofChange s with cond := some uptoSmall }

/-- 'haycroftlaw17.IndexOnce', WHERE WHAT IT READS IS OF BULK AT MOST 1048576: true; the input reads as it did. -/
def indexOnceUptoRow : OpenClaim := { program := "ytjoicobfjpaepaa", sum := "8d79c985321fe14f4ca31641a87f268e9bbbaf79e4cc80fd969203631e9cfb6b", func := "haycroft/haycroftlaw17.IndexOnce", spec := "indexOnce", inPlace := ["sync/atomic.LoadUint64", "sync/atomic.CompareAndSwapUint64", "sync/atomic.AddInt64", "sync/atomic.StoreUint64", "sync/atomic.AddUint64"], unfollowed := true, recurses := true, apart := false, narrowed := true }
def IndexOnceUptoSaid : Prop := indexOnceUptoRow.holds Try.pinned (OpenSpec.upto indexOnceSpec)

/-- 'haycroftlaw17.IndexNil', WHERE WHAT IT READS IS OF BULK AT MOST 1048576: true; the input reads as it did. -/
def indexNilUptoRow : OpenClaim := { program := "ytjoicobfjpaepaa", sum := "8d79c985321fe14f4ca31641a87f268e9bbbaf79e4cc80fd969203631e9cfb6b", func := "haycroft/haycroftlaw17.IndexNil", spec := "indexNil", inPlace := ["sync/atomic.LoadUint64", "sync/atomic.CompareAndSwapUint64", "sync/atomic.AddInt64", "sync/atomic.AddUint64", "sync/atomic.LoadInt64", "sync/atomic.StoreUint64"], unfollowed := true, recurses := true, apart := false, narrowed := true }
def IndexNilUptoSaid : Prop := indexNilUptoRow.holds Try.pinned (OpenSpec.upto indexNilSpec)

/-- 'haycroftlaw33.GrowNil', WHERE WHAT IT READS IS OF BULK AT MOST 1048576: true; the input reads as it did. -/
def growNilUptoRow : OpenClaim := { program := "ytjoicobfjpaepaa", sum := "8d79c985321fe14f4ca31641a87f268e9bbbaf79e4cc80fd969203631e9cfb6b", func := "haycroft/haycroftlaw33.GrowNil", spec := "growNil", inPlace := ["sync/atomic.LoadUint64", "sync/atomic.CompareAndSwapUint64", "sync/atomic.AddInt64", "sync/atomic.AddUint64"], unfollowed := true, recurses := true, apart := false, narrowed := true }
def GrowNilUptoSaid : Prop := growNilUptoRow.holds Try.pinned (OpenSpec.upto growNilSpec)

/-- 'haycroftlaw33.GrowFinds', WHERE WHAT IT READS IS OF BULK AT MOST 1048576: true; the input reads as it did. -/
def growFindsUptoRow : OpenClaim := { program := "ytjoicobfjpaepaa", sum := "8d79c985321fe14f4ca31641a87f268e9bbbaf79e4cc80fd969203631e9cfb6b", func := "haycroft/haycroftlaw33.GrowFinds", spec := "growFinds", inPlace := ["sync/atomic.LoadUint64", "sync/atomic.CompareAndSwapUint64", "sync/atomic.AddInt64", "sync/atomic.AddUint64", "sync/atomic.StoreUint64"], unfollowed := true, recurses := true, apart := false, narrowed := true }
def GrowFindsUptoSaid : Prop := growFindsUptoRow.holds Try.pinned (OpenSpec.upto growFindsSpec)

/-- 'haycroftlaw33.GrowParts', WHERE WHAT IT READS IS OF BULK AT MOST 1048576: true; the input reads as it did. -/
def growPartsUptoRow : OpenClaim := { program := "ytjoicobfjpaepaa", sum := "8d79c985321fe14f4ca31641a87f268e9bbbaf79e4cc80fd969203631e9cfb6b", func := "haycroft/haycroftlaw33.GrowParts", spec := "growParts", inPlace := ["sync/atomic.LoadUint64", "sync/atomic.CompareAndSwapUint64", "sync/atomic.AddInt64", "sync/atomic.AddUint64", "sync/atomic.StoreUint64"], unfollowed := true, recurses := true, apart := false, narrowed := true }
def GrowPartsUptoSaid : Prop := growPartsUptoRow.holds Try.pinned (OpenSpec.upto growPartsSpec)

/-- 'haycroftlaw18.InplaceMay', WHERE WHAT IT READS IS OF BULK AT MOST 1048576: true; the input reads as it did. -/
def inplaceMayUptoRow : OpenClaim := { program := "ytjoicobfjpaepaa", sum := "8d79c985321fe14f4ca31641a87f268e9bbbaf79e4cc80fd969203631e9cfb6b", func := "haycroft/haycroftlaw18.InplaceMay", spec := "inplaceMay", inPlace := ["sync/atomic.LoadUint64", "sync/atomic.CompareAndSwapUint64", "sync/atomic.AddInt64", "sync/atomic.StoreUint64"], apart := false, narrowed := true }
def InplaceMayUptoSaid : Prop := inplaceMayUptoRow.holds Try.pinned (OpenSpec.upto inplaceMaySpec)

/-- 'haycroftlaw18.InplaceSums', WHERE WHAT IT READS IS OF BULK AT MOST 1048576: true; the input reads as it did. -/
def inplaceSumsUptoRow : OpenClaim := { program := "ytjoicobfjpaepaa", sum := "8d79c985321fe14f4ca31641a87f268e9bbbaf79e4cc80fd969203631e9cfb6b", func := "haycroft/haycroftlaw18.InplaceSums", spec := "inplaceSums", inPlace := ["sync/atomic.LoadUint64", "sync/atomic.CompareAndSwapUint64", "sync/atomic.AddInt64", "sync/atomic.StoreUint64"], apart := false, narrowed := true }
def InplaceSumsUptoSaid : Prop := inplaceSumsUptoRow.holds Try.pinned (OpenSpec.upto inplaceSumsSpec)

/-- 'haycroftlaw18.InplacePlays', WHERE WHAT IT READS IS OF BULK AT MOST 1048576: true; the input reads as it did. -/
def inplacePlaysUptoRow : OpenClaim := { program := "ytjoicobfjpaepaa", sum := "8d79c985321fe14f4ca31641a87f268e9bbbaf79e4cc80fd969203631e9cfb6b", func := "haycroft/haycroftlaw18.InplacePlays", spec := "inplacePlays", inPlace := ["sync/atomic.LoadUint64", "sync/atomic.CompareAndSwapUint64", "sync/atomic.AddInt64", "sync/atomic.StoreUint64"], apart := false, narrowed := true }
def InplacePlaysUptoSaid : Prop := inplacePlaysUptoRow.holds Try.pinned (OpenSpec.upto inplacePlaysSpec)

end Rows
end Go.Proofs.Ytjoicobfjpaepaa
