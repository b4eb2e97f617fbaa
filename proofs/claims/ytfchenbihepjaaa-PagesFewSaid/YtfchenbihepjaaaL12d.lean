/- Layer 12 (pages): where words are, on both sides. -/
import Derived.Test.YtfchenbihepjaaaL12c
namespace Go.Proofs.Ytfchenbihepjaaa
open Go Go.HX
set_option maxRecDepth 4000
set_option maxHeartbeats 1000000
section
variable {x : BufM} {os : List OneM} (h : Rel12 x os)
include h
theorem Rel12.find {a : Int} : 0 ≤ findZ x.bits os a ↔ x.isIn a := by
  unfold findZ BufM.isIn
  by_cases hc : 281474976710655 < a
  · rw [if_pos hc]
    exact ⟨fun e => absurd e (by decide), fun e => by have := e.1; omega⟩
  · rw [if_neg hc, h.at_]
    exact ⟨fun e => ⟨by omega, e⟩, fun e => e.2⟩
/-- The error is the same. -/
theorem Rel12.run_err (a n : Int) : (x.runR a n).2 = (runZ x.bits os a n).2.2 := by
  have hf := h.find (a := a)
  unfold BufM.runR runZ
  by_cases hin : x.isIn a
  · have h0 := hf.2 hin
    rw [if_pos hin, if_neg (show ¬ findZ x.bits os a < 0 by omega)]
    by_cases hn : 1 ≤ n ∧ n ≤ roomZ x.bits a
    · rw [if_pos hn, if_neg (show ¬ (n < 1 ∨ roomZ x.bits a < n) by omega)]
    · rw [if_neg hn, if_pos (show n < 1 ∨ roomZ x.bits a < n by omega)]
  · have h0 : findZ x.bits os a < 0 := by
      have : ¬ 0 ≤ findZ x.bits os a := fun e => hin (hf.1 e)
      omega
    rw [if_neg hin, if_pos h0]
/-- Where there are words: the page's place, its offset, the cell. -/
theorem Rel12.run_ok {a n : Int} (he : (runZ x.bits os a n).2.2 = 0) : x.isIn a ∧ (1 ≤ n ∧ n ≤ roomZ x.bits a) ∧ ∃ (i : Nat) (o : OneM), os[i]? = some o ∧ (runZ x.bits os a n).1 = i ∧ (runZ x.bits os a n).2.1 = offZ x.bits a ∧ o.page = pageZ x.bits a ∧ x.cell a = x.frame o.page * sizeZ x.bits + offZ x.bits a := by
  unfold runZ at he ⊢
  by_cases h0 : findZ x.bits os a < 0
  · rw [if_pos h0] at he
    simp at he
  · rw [if_neg h0] at he ⊢
    by_cases hn : n < 1 ∨ roomZ x.bits a < n
    · rw [if_pos hn] at he
      simp at he
    · rw [if_neg hn]
      have hin := h.find.1 (show 0 ≤ findZ x.bits os a by omega)
      refine ⟨hin, by omega, ?_⟩
      have hc : ¬ 281474976710655 < a := by have := hin.1; omega
      have hfz : findZ x.bits os a = atZ os (pageZ x.bits a) := by unfold findZ; rw [if_neg hc]
      rw [hfz] at h0 ⊢
      unfold atZ at h0 ⊢
      cases ha : atN os (pageZ x.bits a) with
      | none => rw [ha] at h0; exact absurd (show (-1 : Int) < 0 by decide) h0
      | some i =>
        obtain ⟨o, ho, hp⟩ := at_get ha
        exact ⟨i, o, ho, rfl, rfl, hp, by rw [hp]; rfl⟩
end
end Go.Proofs.Ytfchenbihepjaaa
