/- Plain facts of layer 8 (header): words by fields of fixed places. -/
import Derived.Test.YtflbfdmmfoigaaaGreatL01j
namespace Go.HX
open Go
theorem putV_next {x a n v : Int} (hr : fRight a n) (x0 : 0 ≤ x) (x1 : x < 2 ^ a.toNat) (v1 : v ≤ mostZ n) : putV x a n v = (x + v * 2 ^ a.toNat, 0) := by
  rw [putV, if_pos hr, if_neg (by omega), putZ, getZ, Int.ediv_eq_zero_of_lt x0 x1]
  simp
theorem get_63 {x : Int} (h0 : 0 ≤ x) (h1 : x ≤ 18446744073709551615) : getV x 63 1 = x / 9223372036854775808 := by
  rw [getV, if_pos (by decide)]
  show x / 9223372036854775808 % 2 = _
  omega
theorem get_lock (x : Int) : getV x 32 31 = x / 4294967296 % 2147483648 := by
  rw [getV, if_pos (by decide)]; rfl
theorem get_count (x : Int) : getV x 0 32 = x % 4294967296 := by
  rw [getV, if_pos (by decide)]
  show x / 1 % 4294967296 = _
  omega
theorem set_63 {x : Int} (h0 : 0 ≤ x) (h1 : x < 9223372036854775808) : setZ x 63 true = x + 9223372036854775808 := by
  have e : putV x 63 1 1 = (x + 1 * 9223372036854775808, 0) := putV_next (by decide) h0 (by simpa using h1) (by decide)
  rw [setZ]
  simp only [if_true]
  rw [e]
  simp
/-- And with the least bits. -/
theorem and_low {x : Int} (n : Nat) (h0 : 0 ≤ x) : (((x.toNat &&& ((2 : Int) ^ n - 1).toNat : Nat)) : Int) = x % 2 ^ n := by
  obtain ⟨x, rfl⟩ := Int.eq_ofNat_of_zero_le h0
  have e : ((2 : Int) ^ n - 1).toNat = 2 ^ n - 1 := by have := cast_pow2 n; have := pow_pos2 n; omega
  rw [e, Int.toNat_natCast, Nat.and_two_pow_sub_one_eq_mod]
  simp
theorem most_32 : mostZ 32 = 4294967295 := rfl
/-- A lock's word, locked; unlocked. -/
@[irreducible] def lockV (x : Int) : Int × Int := if x / 4294967296 % 2147483648 ≠ 0 then (0, 4) else if 9223372036854775808 ≤ x then (0, 10) else (x + 9223372036854775808, 0)
@[irreducible] def unlockV (x : Int) : Int × Int := if x / 4294967296 % 2147483648 ≠ 0 then (0, 4) else if x < 9223372036854775808 then (0, 7) else ((x % 4294967296 + 1) % 4294967296, 0)
@[irreducible] def lengthsV (k v : Int) : Int × Int := if k < 0 ∨ v < 0 then (0, 1) else if 64 < k ∨ 128 < v then (0, 5) else (k + v * 65536 + 189850439385088, 0)
def toldP (w : Int) : Prop := w / 4294967296 = 44203 ∧ w % 65536 ≤ 64 ∧ w / 65536 % 65536 ≤ 128
theorem join_lengths {k v : Int} (k0 : 0 ≤ k) (k1 : k ≤ 64) (v0 : 0 ≤ v) (v1 : v ≤ 128) : joinV 0 0 [k, v, 44203] [16, 16, 16] = (k + v * 65536 + 189850439385088, 0) := by
  have e1 : putV 0 0 16 k = (0 + k * 1, 0) := putV_next (by decide) (by decide) (by decide) (by rw [show mostZ 16 = 65535 from rfl]; omega)
  have e2 : putV k 16 16 v = (k + v * 65536, 0) := putV_next (by decide) k0 (by rw [show (2 : Int) ^ (16 : Int).toNat = 65536 from rfl]; omega) (by rw [show mostZ 16 = 65535 from rfl]; omega)
  have e3 : putV (k + v * 65536) 32 16 44203 = (k + v * 65536 + 44203 * 4294967296, 0) := putV_next (by decide) (by omega) (by rw [show (2 : Int) ^ (32 : Int).toNat = 4294967296 from rfl]; omega) (by decide)
  have e1' : putV 0 0 16 k = (k, 0) := by rw [e1]; simp
  simp only [joinV, e1', if_true, e2, show (16 : Int) + 16 = 32 from rfl, e3, show (0 : Int) + 16 = 16 from rfl, Prod.mk.injEq, and_true]
  omega
theorem spread_16 (x : Int) : spreadV x 0 [16, 16, 16, 16] = [x % 65536, x / 65536 % 65536, x / 4294967296 % 65536, x / 281474976710656 % 65536] := by
  have e0 : getV x 0 16 = x % 65536 := by
    rw [getV, if_pos (by decide)]
    show x / 1 % 65536 = _
    omega
  have e1 : getV x 16 16 = x / 65536 % 65536 := by rw [getV, if_pos (by decide)]; rfl
  have e2 : getV x 32 16 = x / 4294967296 % 65536 := by rw [getV, if_pos (by decide)]; rfl
  have e3 : getV x 48 16 = x / 281474976710656 % 65536 := by rw [getV, if_pos (by decide)]; rfl
  simp only [spreadV]
  rw [e0, show (0 : Int) + 16 = 16 from rfl, e1, show (16 : Int) + 16 = 32 from rfl, e2, show (32 : Int) + 16 = 48 from rfl, e3]
end Go.HX
