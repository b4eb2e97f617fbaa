/- Layer 1 (field): words and bytes of a text. -/
import Derived.Test.YtfchenbihepjaaaHxS
import Derived.Test.YtfchenbihepjaaaIr0
import Derived.Test.YtfchenbihepjaaaIr1
namespace Go.Proofs.Ytfchenbihepjaaa
open Go Go.HX
attribute [local irreducible] Ret XRun XOps XDr XOne Does Gives
set_option maxRecDepth 4000
set_option maxHeartbeats 1000000
/-- The words of a text, of whose bytes i are in. -/
def wordsTo (s : ByteArray) (i : Nat) : List Int := (List.range ((s.size + 7) / 8)).map (fun j => ((leV (byteN s) (8 * j) (min 8 (i - 8 * j)) : Nat) : Int))
theorem wordsTo_length (s : ByteArray) (i : Nat) : (wordsTo s i).length = (s.size + 7) / 8 := by simp [wordsTo]
theorem wordsTo_get {s : ByteArray} {i j : Nat} (h : j < (s.size + 7) / 8) : (wordsTo s i).getD j 0 = ((leV (byteN s) (8 * j) (min 8 (i - 8 * j)) : Nat) : Int) := by
  simp [wordsTo, List.getD_eq_getElem?_getD, h]
theorem wordsTo_zero (s : ByteArray) : wordsTo s 0 = List.replicate ((s.size + 7) / 8) 0 := by
  apply List.ext_getElem
  · simp [wordsTo]
  · intro j h1 h2
    simp [wordsTo, leV]
theorem wordsTo_end (s : ByteArray) : wordsTo s s.size = wordsZ s := by
  unfold wordsTo wordsZ
  congr 1
  funext j
  congr 1
  exact (leV_tail (by omega) (fun k h1 _ => byteN_end (by omega))).symm
theorem wordsTo_next {s : ByteArray} {i : Nat} (h : i < s.size) : (wordsTo s i).set (i / 8) ((((wordsTo s i).getD (i / 8) 0).toNat ||| (shl64 (byteN s i : Int) (((i : Int) % 8) * 8)).toNat : Nat) : Int) = wordsTo s (i + 1) := by
  have hlt : i / 8 < (s.size + 7) / 8 := by omega
  have hb := byteN_lt s i
  have hk : i % 8 < 8 := Nat.mod_lt _ (by decide)
  have hv : leV (byteN s) (8 * (i / 8)) (i % 8) < 256 ^ (i % 8) := leV_lt (byteN_lt s) _ _
  have hp : (256 : Nat) ^ (i % 8) = 2 ^ (8 * (i % 8)) := by rw [show (256 : Nat) = 2 ^ 8 from rfl, ← Nat.pow_mul]
  have hsh : (shl64 (byteN s i : Int) (((i : Int) % 8) * 8)).toNat = byteN s i * 2 ^ (8 * (i % 8)) := by
    unfold shl64
    have e1 : ((((i : Int) % 8) * 8).toNat) = 8 * (i % 8) := by omega
    rw [e1, Nat.min_eq_left (by omega)]
    have h1 : byteN s i * 2 ^ (8 * (i % 8)) < 18446744073709551616 := by
      have : byteN s i * 2 ^ (8 * (i % 8)) < 256 * 256 ^ 7 := by
        rw [← hp]
        exact Nat.mul_lt_mul_of_lt_of_le hb (Nat.pow_le_pow_right (by decide) (by omega)) (by decide)
      exact this
    have e2 : ((byteN s i : Nat) : Int) * 2 ^ (8 * (i % 8)) = ((byteN s i * 2 ^ (8 * (i % 8)) : Nat) : Int) := by push_cast; rfl
    rw [e2]
    omega
  apply List.ext_getElem
  · rw [List.length_set, wordsTo_length, wordsTo_length]
  · intro j h1 h2
    rw [wordsTo_length] at h2
    rw [List.getElem_set]
    have e3 : ∀ (i j : Nat) (h : j < (wordsTo s i).length), (wordsTo s i)[j] = (wordsTo s i).getD j 0 := fun i j h => by rw [List.getD_eq_getElem?_getD, List.getElem?_eq_getElem h]; rfl
    rw [e3 (i + 1) j (by rw [wordsTo_length]; exact h2), wordsTo_get h2]
    split
    · rename_i hj
      subst hj
      rw [wordsTo_get hlt, hsh, Int.toNat_natCast]
      have m1 : min 8 (i - 8 * (i / 8)) = i % 8 := by omega
      have m2 : min 8 (i + 1 - 8 * (i / 8)) = i % 8 + 1 := by omega
      rw [m1, m2, leV, hp]
      rw [hp] at hv
      have e4 : 8 * (i / 8) + i % 8 = i := by omega
      rw [e4]
      congr 1
      rw [Nat.or_comm, Nat.mul_comm, Nat.add_comm, Nat.two_pow_add_eq_or_of_lt hv]
    · rename_i hj
      rw [e3 i j (by rw [wordsTo_length]; exact h2), wordsTo_get h2]
      have : min 8 (i - 8 * j) = min 8 (i + 1 - 8 * j) := by omega
      rw [this]
section
variable {S : SP} {w : World} {G : List HProp}



def fbytesV (l : List Int) (n : Int) : ByteArray × Int := if n < 0 then (ByteArray.empty, 1) else if 8 * l.length < n then (ByteArray.empty, 3) else if (l.length : Int) ≠ (n + 7) / 8 then (ByteArray.empty, 4) else (strOfNums (bytesZ l n.toNat), 0)

end
end Go.Proofs.Ytfchenbihepjaaa