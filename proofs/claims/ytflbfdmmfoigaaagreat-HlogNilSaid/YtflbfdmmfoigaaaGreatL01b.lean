/- Plain facts: there and back (layer 1). -/
import Derived.Test.YtflbfdmmfoigaaaGreatL01r
namespace Go.HX
open Go
def putN (w a n v : Nat) : Nat := w - (w / 2 ^ a % 2 ^ n) * 2 ^ a + v * 2 ^ a
theorem putN_testBit {w a n v : Nat} (hw : w < 18446744073709551616) (han : a + n ≤ 64) (hv : v < 2 ^ n) (i : Nat) : (putN w a n v).testBit i = putBit w a n v i := by
  unfold putN
  rw [← (put_sum hw han hv).1]
  exact put_testBit hw han hv i
theorem putN_lt {w a n v : Nat} (hw : w < 18446744073709551616) (han : a + n ≤ 64) (hv : v < 2 ^ n) : putN w a n v < 18446744073709551616 := by
  refine lt64_of_testBit (fun i hi => ?_)
  rw [putN_testBit hw han hv, putBit, if_neg (by omega), testBit_of_lt64 hw hi]
theorem getN_testBit (x a n i : Nat) : (x / 2 ^ a % 2 ^ n).testBit i = (decide (i < n) && x.testBit (a + i)) := by
  rw [Nat.testBit_mod_two_pow, Nat.testBit_div_two_pow, Nat.add_comm]
theorem get_put {w a n v : Nat} (hw : w < 18446744073709551616) (han : a + n ≤ 64) (hv : v < 2 ^ n) : putN w a n v / 2 ^ a % 2 ^ n = v := by
  apply Nat.eq_of_testBit_eq
  intro i
  rw [getN_testBit, putN_testBit hw han hv, putBit]
  by_cases h : i < n
  · rw [if_pos (by omega)]
    have : a + i - a = i := by omega
    simp [h, this]
  · have : v.testBit i = false := Nat.testBit_lt_two_pow (Nat.lt_of_lt_of_le hv (Nat.pow_le_pow_right (by decide) (by omega)))
    simp [h, this]
theorem put_put {w a n v : Nat} (hw : w < 18446744073709551616) (han : a + n ≤ 64) (hv : v < 2 ^ n) : putN (putN w a n v) a n (w / 2 ^ a % 2 ^ n) = w := by
  apply Nat.eq_of_testBit_eq
  intro i
  rw [putN_testBit (putN_lt hw han hv) han (Nat.mod_lt _ (pow_pos2 n)), putBit]
  by_cases h : a ≤ i ∧ i < a + n
  · rw [if_pos h, getN_testBit]
    have h1 : i - a < n := by omega
    have h2 : a + (i - a) = i := by omega
    simp [h1, h2]
  · rw [if_neg h, putN_testBit hw han hv, putBit, if_neg h]
theorem get_other {w a n v o m : Nat} (hw : w < 18446744073709551616) (han : a + n ≤ 64) (hv : v < 2 ^ n) (hd : o + m ≤ a ∨ a + n ≤ o) : putN w a n v / 2 ^ o % 2 ^ m = w / 2 ^ o % 2 ^ m := by
  apply Nat.eq_of_testBit_eq
  intro i
  rw [getN_testBit, getN_testBit, putN_testBit hw han hv, putBit]
  by_cases h : i < m
  · rw [if_neg (by omega)]
  · simp [h]
theorem getZ_natG (x a n : Nat) : getZ (x : Int) (a : Int) (n : Int) = ((x / 2 ^ a % 2 ^ n : Nat) : Int) := getZ_nat x a n
theorem putZ_putN {x a n v : Nat} (hx : x < 18446744073709551616) (han : a + n ≤ 64) (hv : v < 2 ^ n) : putZ (x : Int) (a : Int) (n : Int) (v : Int) = ((putN x a n v : Nat) : Int) :=
  putZ_nat (put_sum hx han hv).2
/-- a value that fits -/
theorem le_most {n v : Nat} (h1 : 1 ≤ n) (h2 : n ≤ 64) : (v : Int) ≤ mostZ n ↔ v < 2 ^ n := by
  rw [mostZ_in (by omega) (by omega), Int.toNat_natCast]
  have := cast_pow2 n
  have := pow_pos2 n
  omega
/-- a flag -/
theorem flag_bit (x a : Nat) : ((x / 2 ^ a % 2 ^ 1 : Nat) : Int) = bit (x.testBit a) := by
  rw [Nat.pow_one, mod2_bit, Nat.testBit_div_two_pow, Nat.zero_add]
theorem bit_one (b : Bool) : bit b = 1 ↔ b = true := by cases b <;> simp [bit]
/-- setting a flag -/
def setZ (x at_ : Int) (on : Bool) : Int := if (putV x at_ 1 (if on then 1 else 0)).2 = 0 then (putV x at_ 1 (if on then 1 else 0)).1 else x
theorem set_out {x at_ : Int} {on : Bool} (h : ¬ (0 ≤ at_ ∧ at_ < 64)) : setZ x at_ on = x := by
  have hr : ¬ fRight at_ 1 := fun hr => h ⟨hr.1, hr.2.1⟩
  unfold setZ putV
  rw [if_neg hr]
  rfl
theorem get_out {x at_ : Int} (h : ¬ (0 ≤ at_ ∧ at_ < 64)) : getV x at_ 1 = 0 := by
  have hr : ¬ fRight at_ 1 := fun hr => h ⟨hr.1, hr.2.1⟩
  unfold getV
  rw [if_neg hr]
theorem get_flag {x a : Nat} (h : a < 64) : getV x a 1 = bit (x.testBit a) := by
  rw [getV, if_pos ⟨by omega, by omega, by omega, by omega⟩]
  have := getZ_natG x a 1
  rw [show ((1 : Nat) : Int) = 1 from rfl] at this
  rw [this, flag_bit]
theorem set_in {x a : Nat} {on : Bool} (hx : x < 18446744073709551616) (h : a < 64) : setZ x a on = ((putN x a 1 on.toNat : Nat) : Int) := by
  have hr : fRight a 1 := ⟨by omega, by omega, by omega, by omega⟩
  have hb : on.toNat < 2 ^ 1 := by cases on <;> decide
  have hm : mostZ 1 = 1 := by decide
  have e : (if on then (1 : Int) else 0) = ((on.toNat : Nat) : Int) := by cases on <;> rfl
  unfold setZ
  rw [e]
  have e2 : putV x a 1 (on.toNat : Nat) = (((putN x a 1 on.toNat : Nat) : Int), 0) := by
    rw [putV, if_pos hr, if_neg (by rw [hm]; omega)]
    have := putZ_putN (x := x) (a := a) (n := 1) (v := on.toNat) hx (by omega) hb
    rw [show ((1 : Nat) : Int) = 1 from rfl] at this
    rw [this]
  rw [e2]
  rfl
theorem set_bits {x a : Nat} {on : Bool} (hx : x < 18446744073709551616) (h : a < 64) : wordN (bitsF 64 (fun i => if i = a then on else x.testBit i)) = putN x a 1 on.toNat := by
  apply Nat.eq_of_testBit_eq
  intro i
  rw [wordN_bitsF, putN_testBit hx (by omega) (by cases on <;> decide), putBit]
  by_cases hi : i = a
  · subst hi
    rw [if_pos (by omega), Nat.sub_self]
    cases on <;> simp [h]
  · rw [if_neg hi, if_neg (by omega)]
    by_cases h64 : i < 64
    · simp [h64]
    · have := testBit_of_lt64 (x := x) (i := i) hx (by omega)
      simp [this]
theorem set_get {x a : Nat} {on : Bool} (hx : x < 18446744073709551616) (h : a < 64) : (putN x a 1 on.toNat).testBit a = on := by
  rw [putN_testBit hx (by omega) (by cases on <;> decide), putBit, if_pos (by omega), Nat.sub_self]
  cases on <;> rfl
end Go.HX
