/- Layer 18 (inplace): all who are at a record, and the document's. -/
import Derived.Test.YtjoicobfjpaepaaP18y
import Derived.Test.YtjoicobfjpaepaaL18s
namespace Go.Proofs.Ytjoicobfjpaepaa
open Go Go.HX
set_option maxRecDepth 4000
set_option maxHeartbeats 1000000
/-- The document's stand as they are told to. -/
def Sync (xs : List ManM) : Prop := ∀ (i : Nat) (x : ManM), xs[i]? = some x → x.kk = x.k
theorem sync_set {xs : List ManM} {k : Nat} {x : ManM} (h : Sync xs) (hx : x.kk = x.k) : Sync (xs.set k x) := fun i y hy => by
  by_cases e : k = i
  · subst e; rw [getElem?_set_eq' hy]; exact hx
  · exact h i y (getElem?_set_ne' e hy)
theorem same_maps {xs : List ManM} {i : Nat} {x x' : ManM} (hx : xs[i]? = some x) (h1 : x'.rd = x.rd) (h2 : x'.rb = x.rb) (h3 : x'.mb = x.mb) : (xs.set i x').map ManM.wP = xs.map ManM.wP ∧ (xs.set i x').map ManM.rP = xs.map ManM.rP ∧ (xs.set i x').map ManM.mP = xs.map ManM.mP :=
  ⟨map_set_same hx (by unfold ManM.wP; rw [h1, h2]), map_set_same hx (by unfold ManM.rP; rw [h1, h2]), map_set_same hx (by unfold ManM.mP; rw [h3])⟩
/-- What the document's move needs. -/
theorem man_may {x : ManM} {c : CelM} {n : Nat} (h : Man x c n) (hl : c.l.length ≤ 16) : (x.k.done = false → x.k.mv ≤ 1000) ∧ (1 ≤ x.k.mv → x.k.done = false → x.k.reads = true → x.k.got.length ≤ 1000) ∧ (x.k.reads = false → x.k.done = false → 1 ≤ x.k.mv → (x.k.adds = true → 1 ≤ c.l.length) ∧ (x.k.adds = false ∨ 2 ≤ x.k.mv → x.k.l.length ≤ c.l.length)) := by
  refine ⟨fun hd => ?_, fun h1 hd hr => ?_, fun hr hd h1 => ?_⟩
  · by_cases h0 : x.k.mv = 0
    · omega
    · cases hr : x.k.reads
      · have hw := h.wr (by rw [← h.kr]; exact hr)
        by_cases h2 : 2 ≤ x.k.mv
        · have := (hw.st2 hd (by omega) (.inr h2)).2.1
          unfold WkM.at_ at this
          split at this <;> omega
        · omega
      · have := ((h.rd (by rw [← h.kr]; exact hr)).st1 hd (by omega)).2.2.2.1
        omega
  · have := (h.rd (by rw [← h.kr]; exact hr)).st1 hd h1
    omega
  · have hw := h.wr (by rw [← h.kr]; exact hr)
    refine ⟨fun ha => by have := (hw.one ha).1; omega, fun hs => ?_⟩
    rw [← hw.same hs, hw.len]
    omega
theorem lockW_cases (c : CelM) (h : 0 ≤ c.count ∧ c.count < 4294967296) : (c.locked = true ↔ 9223372036854775808 ≤ lockW c) ∧ lockW c % 4294967296 = c.count := by
  unfold lockW
  cases hl : c.locked
  · rw [if_neg (by decide)]
    exact ⟨⟨fun e => absurd e (by decide), fun e => by omega⟩, by omega⟩
  · rw [if_pos rfl]
    exact ⟨⟨fun _ => by omega, fun _ => rfl⟩, by omega⟩
theorem begun_sync {xs : List ManM} {c : CelM} {n i : Nat} (h : Begun xs c n i) : Sync xs := fun i x hx => (h.fresh i x hx).kk
end Go.Proofs.Ytjoicobfjpaepaa
