/- Plain facts on fields of words (layer 1): no program in sight. -/
import Derived.Test.YtflbfdmmfoigaaaGreatHxH
namespace Go.HX
open Go

abbrev fRight (at_ bits : Int) : Prop := 0 ≤ at_ ∧ at_ < 64 ∧ 1 ≤ bits ∧ bits ≤ 64 - at_
def mostZ (bits : Int) : Int := if bits < 1 then 0 else if 64 ≤ bits then 18446744073709551615 else 2 ^ bits.toNat - 1
def getZ (w at_ bits : Int) : Int := w / 2 ^ at_.toNat % 2 ^ bits.toNat
def getV (w at_ bits : Int) : Int := if fRight at_ bits then getZ w at_ bits else 0
def putZ (w at_ bits v : Int) : Int := w - getZ w at_ bits * 2 ^ at_.toNat + v * 2 ^ at_.toNat
def putV (w at_ bits v : Int) : Int × Int := if fRight at_ bits then (if mostZ bits < v then (0, 13) else (putZ w at_ bits v, 0)) else (0, 1)

theorem pow_le_pow64 {n : Nat} (h : n ≤ 64) : (2 : Nat) ^ n ≤ 18446744073709551616 := by
  have := Nat.pow_le_pow_right (n := 2) (by decide) h
  simpa using this
theorem pow_lt_pow64 {n : Nat} (h : n < 64) : (2 : Nat) ^ n ≤ 9223372036854775808 := by
  have := Nat.pow_le_pow_right (n := 2) (by decide) (show n ≤ 63 by omega)
  simpa using this
theorem pow_pos2 (n : Nat) : 0 < (2 : Nat) ^ n := Nat.pow_pos (by decide)
theorem cast_pow2 (n : Nat) : ((2 ^ n : Nat) : Int) = (2 : Int) ^ n := by simp

theorem mostZ_bounds (bits : Int) : 0 ≤ mostZ bits ∧ mostZ bits ≤ 18446744073709551615 := by
  unfold mostZ
  split
  · omega
  · split
    · omega
    · have h1 := pow_le_pow64 (n := bits.toNat) (by omega)
      have h2 := pow_pos2 bits.toNat
      have h3 := cast_pow2 bits.toNat
      omega
theorem mostZ_in {bits : Int} (h1 : 1 ≤ bits) (h2 : bits ≤ 64) : mostZ bits = 2 ^ bits.toNat - 1 := by
  unfold mostZ
  rw [if_neg (by omega)]
  split
  · obtain rfl : bits = 64 := by omega
    rfl
  · rfl
theorem shl64_small {a n : Int} (h0 : 0 ≤ a) (hn0 : 0 ≤ n) (hn : n ≤ 64) (h : a * 2 ^ n.toNat < 18446744073709551616) : shl64 a n = a * 2 ^ n.toNat := by
  unfold shl64
  rw [show min n.toNat 64 = n.toNat by omega]
  have h2 : (0 : Int) ≤ 2 ^ n.toNat := Int.pow_nonneg (by decide)
  exact Int.emod_eq_of_lt (Int.mul_nonneg h0 h2) h
theorem shr64_small {a n : Int} (hn : n ≤ 64) : shr64 a n = a / 2 ^ n.toNat := by
  unfold shr64
  rw [show min n.toNat 64 = n.toNat by omega]

/-- What Get's last line computes. -/
theorem get_and {w at_ bits : Int} (h0 : 0 ≤ w) (hr : fRight at_ bits) : (((shr64 w at_).toNat &&& (mostZ bits).toNat : Nat) : Int) = getZ w at_ bits := by
  obtain ⟨a0, a1, b0, b1⟩ := hr
  rw [shr64_small (by omega), mostZ_in b0 (by omega)]
  unfold getZ
  have h1 : (2 ^ bits.toNat - 1 : Int).toNat = 2 ^ bits.toNat - 1 := by
    have h3 := cast_pow2 bits.toNat
    have h2 := pow_pos2 bits.toNat
    omega
  rw [h1, Nat.and_two_pow_sub_one_eq_mod]
  have h2 : 0 ≤ w / 2 ^ at_.toNat := Int.ediv_nonneg h0 (Int.pow_nonneg (by decide))
  rw [Int.natCast_emod, Int.toNat_of_nonneg h2, cast_pow2]

theorem getZ_bounds {w at_ bits : Int} (_h0 : 0 ≤ w) (hr : fRight at_ bits) : 0 ≤ getZ w at_ bits ∧ getZ w at_ bits ≤ mostZ bits := by
  obtain ⟨a0, a1, b0, b1⟩ := hr
  unfold getZ
  rw [mostZ_in b0 (by omega)]
  have hp : (0 : Int) < 2 ^ bits.toNat := Int.pow_pos (by decide)
  have h1 := Int.emod_nonneg (w / 2 ^ at_.toNat) (by omega : (2 : Int) ^ bits.toNat ≠ 0)
  have h2 := Int.emod_lt_of_pos (w / 2 ^ at_.toNat) hp
  omega

/-! words as bits -/
theorem testBit_and_not {w m : Nat} (hm : m < 18446744073709551616) (i : Nat) (hi : i < 64) : (w &&& (18446744073709551615 - m)).testBit i = (w.testBit i && !m.testBit i) := by
  rw [Nat.testBit_and]
  congr 1
  have := Nat.testBit_two_pow_sub_succ (x := m) (n := 64) (by simpa using hm) i
  rw [show 18446744073709551615 - m = 2 ^ 64 - (m + 1) by omega, this]
  simp [hi]
theorem lt64_of_testBit {x : Nat} (h : ∀ i, 64 ≤ i → x.testBit i = false) : x < 18446744073709551616 := by
  have := Nat.lt_pow_two_of_testBit (n := 64) x (fun i hi => h i hi)
  simpa using this
theorem testBit_of_lt64 {x i : Nat} (h : x < 18446744073709551616) (hi : 64 ≤ i) : x.testBit i = false :=
  Nat.testBit_lt_two_pow (Nat.lt_of_lt_of_le (by simpa using h) (Nat.pow_le_pow_right (n := 2) (by decide) hi))

/-- Bits of a word with a field put. -/
def putBit (w a n v i : Nat) : Bool := if a ≤ i ∧ i < a + n then v.testBit (i - a) else w.testBit i
theorem mask_testBit (a n i : Nat) : ((2 ^ n - 1) * 2 ^ a).testBit i = (decide (a ≤ i) && decide (i < a + n)) := by
  rw [Nat.testBit_mul_two_pow]
  by_cases h : a ≤ i
  · simp [h, Nat.testBit_two_pow_sub_one]; omega
  · simp [h]
theorem put_testBit {w a n v : Nat} (hw : w < 18446744073709551616) (han : a + n ≤ 64) (hv : v < 2 ^ n) (i : Nat) :
    ((w &&& (18446744073709551615 - (2 ^ n - 1) * 2 ^ a)) ||| v * 2 ^ a).testBit i = putBit w a n v i := by
  have hm : (2 ^ n - 1) * 2 ^ a < 18446744073709551616 := lt64_of_testBit (fun i hi => by rw [mask_testBit]; simp; omega)
  rw [Nat.testBit_or, Nat.testBit_mul_two_pow]
  unfold putBit
  rcases Nat.lt_or_ge i 64 with hi | hi
  · rw [testBit_and_not hm i hi, mask_testBit]
    by_cases h1 : a ≤ i
    · by_cases h2 : i < a + n
      · simp [h1, h2]
      · have : v.testBit (i - a) = false := Nat.testBit_lt_two_pow (Nat.lt_of_lt_of_le hv (Nat.pow_le_pow_right (by decide) (by omega)))
        simp [h1, h2, this]
    · simp [h1]
  · have h3 : ¬ (a ≤ i ∧ i < a + n) := by omega
    rw [if_neg h3, testBit_of_lt64 hw hi, Nat.testBit_and, testBit_of_lt64 hw hi]
    have : v.testBit (i - a) = false := Nat.testBit_lt_two_pow (Nat.lt_of_lt_of_le hv (Nat.pow_le_pow_right (by decide) (by omega)))
    simp [this]
/-- as a sum -/
theorem put_sum {w a n v : Nat} (hw : w < 18446744073709551616) (han : a + n ≤ 64) (hv : v < 2 ^ n) :
    ((w &&& (18446744073709551615 - (2 ^ n - 1) * 2 ^ a)) ||| v * 2 ^ a) = w - (w / 2 ^ a % 2 ^ n) * 2 ^ a + v * 2 ^ a ∧ (w / 2 ^ a % 2 ^ n) * 2 ^ a ≤ w := by
  -- w = hi * 2^(a+n) + mid * 2^a + lo
  have hpa := pow_pos2 a
  have hpn := pow_pos2 n
  have e1 : w = w / 2 ^ a * 2 ^ a + w % 2 ^ a := by rw [Nat.mul_comm]; exact (Nat.div_add_mod w (2 ^ a)).symm
  have e2 : w / 2 ^ a = w / 2 ^ a / 2 ^ n * 2 ^ n + w / 2 ^ a % 2 ^ n := by rw [Nat.mul_comm]; exact (Nat.div_add_mod _ _).symm
  have hlo : w % 2 ^ a < 2 ^ a := Nat.mod_lt _ hpa
  have hmid : w / 2 ^ a % 2 ^ n < 2 ^ n := Nat.mod_lt _ hpn
  generalize hh : w / 2 ^ a / 2 ^ n = hi at *
  generalize hmm : w / 2 ^ a % 2 ^ n = mid at *
  generalize hll : w % 2 ^ a = lo at *
  have hle : mid * 2 ^ a ≤ w := by rw [e1, e2, Nat.add_mul]; omega
  refine ⟨?_, hle⟩
  have e3 : w - mid * 2 ^ a + v * 2 ^ a = (hi * 2 ^ n + v) * 2 ^ a + lo := by
    rw [Nat.add_mul]
    have : w = hi * 2 ^ n * 2 ^ a + mid * 2 ^ a + lo := by rw [← Nat.add_mul, ← e2]; exact e1
    omega
  rw [e3]
  apply Nat.eq_of_testBit_eq
  intro i
  rw [put_testBit hw han hv]
  unfold putBit
  have hw' : w = (hi * 2 ^ n + mid) * 2 ^ a + lo := by rw [← e2]; exact e1
  have tb : ∀ x : Nat, (x * 2 ^ a + lo).testBit i = if i < a then lo.testBit i else x.testBit (i - a) := by
    intro x
    rw [Nat.mul_comm x]
    exact Nat.testBit_two_pow_mul_add x hlo i
  have tb2 : ∀ (y j : Nat), y < 2 ^ n → (hi * 2 ^ n + y).testBit j = if j < n then y.testBit j else hi.testBit (j - n) := by
    intro y j hy
    rw [Nat.mul_comm hi]
    exact Nat.testBit_two_pow_mul_add hi hy j
  rw [tb]
  conv => lhs; rw [hw', tb]
  by_cases h1 : i < a
  · rw [if_neg (by omega), if_pos h1, if_pos h1]
  · rw [if_neg h1, if_neg h1, tb2 _ _ hv, tb2 _ _ hmid]
    by_cases h2 : i < a + n
    · rw [if_pos (by omega), if_pos (by omega)]
    · rw [if_neg (by omega), if_neg (by omega), if_neg (by omega)]

/-- What Put's last line computes. -/
theorem put_or {w at_ bits v : Int} (h0 : 0 ≤ w) (h1 : w ≤ 18446744073709551615) (hr : fRight at_ bits) (hv0 : 0 ≤ v) (hv : v ≤ mostZ bits) :
    (((((w.toNat &&& (18446744073709551615 - (shl64 (mostZ bits) at_).toNat) : Nat) : Int).toNat ||| (shl64 v at_).toNat : Nat) : Int)) = putZ w at_ bits v := by
  obtain ⟨a0, a1, b0, b1⟩ := hr
  obtain ⟨a, rfl⟩ := Int.eq_ofNat_of_zero_le a0
  obtain ⟨n, rfl⟩ := Int.eq_ofNat_of_zero_le (show 0 ≤ bits by omega)
  obtain ⟨u, rfl⟩ := Int.eq_ofNat_of_zero_le hv0
  obtain ⟨x, rfl⟩ := Int.eq_ofNat_of_zero_le h0
  rw [mostZ_in b0 (by omega)] at hv ⊢
  simp only [Int.toNat_natCast] at *
  have hpn := pow_pos2 n
  have hpa := pow_pos2 a
  have hcn := cast_pow2 n
  have hun : u < 2 ^ n := by omega
  have hle : 2 ^ n * 2 ^ a ≤ 18446744073709551616 := by rw [← Nat.pow_add]; exact pow_le_pow64 (by omega)
  have hm : (2 ^ n - 1 : Int) = ((2 ^ n - 1 : Nat) : Int) := by omega
  have key : ∀ y : Nat, y < 2 ^ n → shl64 (y : Int) (a : Int) = ((y * 2 ^ a : Nat) : Int) := by
    intro y hy
    have h3 : y * 2 ^ a < 2 ^ n * 2 ^ a := Nat.mul_lt_mul_of_pos_right hy hpa
    rw [shl64_small (by omega) (by omega) (by omega)]
    · simp
    · simp only [Int.toNat_natCast]
      rw [← cast_pow2, ← Int.natCast_mul]
      omega
  rw [hm, key _ (by omega), key _ hun]
  simp only [Int.toNat_natCast]
  obtain ⟨e1, e2⟩ := put_sum (w := x) (a := a) (n := n) (v := u) (by omega) (by omega) hun
  rw [e1]
  unfold putZ getZ
  simp only [Int.toNat_natCast]
  rw [Int.natCast_add, Int.natCast_sub e2, Int.natCast_mul, Int.natCast_mul, Int.natCast_emod, Int.natCast_ediv, cast_pow2, cast_pow2]

theorem putZ_bounds {w at_ bits v : Int} (h0 : 0 ≤ w) (h1 : w ≤ 18446744073709551615) (hr : fRight at_ bits) (hv0 : 0 ≤ v) (hv : v ≤ mostZ bits) : 0 ≤ putZ w at_ bits v ∧ putZ w at_ bits v ≤ 18446744073709551615 := by
  rw [← put_or h0 h1 hr hv0 hv]
  have hsh : ∀ x : Int, (shl64 x at_).toNat < 18446744073709551616 := fun x => by
    unfold shl64
    have := Int.emod_lt_of_pos (x * 2 ^ min at_.toNat 64) (show (0 : Int) < 18446744073709551616 by decide)
    omega
  have h3 : (((w.toNat &&& (18446744073709551615 - (shl64 (mostZ bits) at_).toNat) : Nat) : Int).toNat ||| (shl64 v at_).toNat) < 2 ^ 64 :=
    Nat.or_lt_two_pow (by rw [Int.toNat_natCast]; exact Nat.lt_of_le_of_lt Nat.and_le_left (by omega)) (by have := hsh v; omega)
  omega
theorem putV_bounds {w at_ bits v : Int} (h0 : 0 ≤ w) (h1 : w ≤ 18446744073709551615) (hv0 : 0 ≤ v) : 0 ≤ (putV w at_ bits v).1 ∧ (putV w at_ bits v).1 ≤ 18446744073709551615 := by
  unfold putV
  split
  · rename_i hr
    split
    · simp
    · rename_i hv
      exact putZ_bounds h0 h1 hr hv0 (by omega)
  · simp
theorem getV_bounds {w at_ bits : Int} (h0 : 0 ≤ w) : 0 ≤ getV w at_ bits ∧ getV w at_ bits ≤ 18446744073709551615 := by
  unfold getV
  split
  · rename_i hr
    have := getZ_bounds h0 hr
    have := mostZ_bounds bits
    omega
  · omega
end Go.HX
