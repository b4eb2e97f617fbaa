/- Plain facts: words as lists of bits (the reference of layer 1). -/
import Derived.Test.YtflbfdmmfoigaaaGreatL01
namespace Go.HX
open Go

def bit (b : Bool) : Int := if b then 1 else 0
def bitsF (n : Nat) (f : Nat → Bool) : List Int := (List.range n).map (fun i => bit (f i))
def isBits (l : List Int) : Prop := ∀ b ∈ l, b = 0 ∨ b = 1
def wordN : List Int → Nat
  | [] => 0
  | b :: l => 2 * wordN l + b.toNat
theorem bitsF_length (n : Nat) (f : Nat → Bool) : (bitsF n f).length = n := by simp [bitsF]
theorem bitsF_is (n : Nat) (f : Nat → Bool) : isBits (bitsF n f) := by
  intro b hb
  simp [bitsF] at hb
  obtain ⟨i, _, rfl⟩ := hb
  cases f i <;> simp [bit]
theorem bitsF_getD {n i : Nat} {f : Nat → Bool} (h : i < n) : (bitsF n f).getD i 0 = bit (f i) := by
  simp [bitsF, h]
theorem bitsF_set (n : Nat) (f : Nat → Bool) (j : Nat) (b : Bool) : (bitsF n f).set j (bit b) = bitsF n (fun i => if i = j then b else f i) := by
  apply List.ext_getElem?
  intro i
  rw [List.getElem?_set]
  by_cases h : j = i
  · subst h
    by_cases hj : j < n
    · simp [bitsF, hj]
    · simp [bitsF, hj]
  · rw [if_neg h]
    by_cases hi : i < n
    · have : ¬ i = j := fun e => h e.symm
      simp [bitsF, hi, this]
    · simp [bitsF, hi]
theorem bitsF_congr {n : Nat} {f g : Nat → Bool} (h : ∀ i, i < n → f i = g i) : bitsF n f = bitsF n g := by
  unfold bitsF
  apply List.map_congr_left
  intro i hi
  rw [h i (List.mem_range.1 hi)]
theorem bitsF_succ (n : Nat) (f : Nat → Bool) : bitsF (n + 1) f = bitsF n f ++ [bit (f n)] := by simp [bitsF, List.range_succ]
theorem bitsF_slice (n a m : Nat) (f : Nat → Bool) (h : a + m ≤ n) : ((bitsF n f).take (a + m)).drop a = bitsF m (fun i => f (a + i)) := by
  apply List.ext_getElem?
  intro i
  rw [List.getElem?_drop, List.getElem?_take]
  by_cases hi : i < m
  · rw [if_pos (by omega)]
    simp [bitsF, hi, (by omega : a + i < n)]
  · rw [if_neg (by omega)]
    simp [bitsF, hi]

theorem wordN_lt : ∀ (l : List Int), isBits l → wordN l < 2 ^ l.length
  | [], _ => by simp [wordN]
  | b :: l, h => by
    have ih := wordN_lt l (fun c hc => h c (List.mem_cons_of_mem _ hc))
    have hb := h b (List.mem_cons_self ..)
    simp only [wordN, List.length_cons, Nat.pow_succ]
    omega
theorem wordN_testBit : ∀ (l : List Int), isBits l → ∀ i, (wordN l).testBit i = decide (l.getD i 0 = 1)
  | [], _, i => by simp [wordN]
  | b :: l, h, i => by
    have ih := wordN_testBit l (fun c hc => h c (List.mem_cons_of_mem _ hc))
    have hb := h b (List.mem_cons_self ..)
    simp only [wordN]
    cases i with
    | zero =>
      rw [Nat.testBit_zero]
      simp only [List.getD_cons_zero]
      rcases hb with rfl | rfl <;> simp <;> omega
    | succ i =>
      rw [Nat.testBit_succ]
      have : (2 * wordN l + b.toNat) / 2 = wordN l := by rcases hb with rfl | rfl <;> simp <;> omega
      rw [this, ih i]
      simp
theorem wordN_bitsF (n : Nat) (f : Nat → Bool) (i : Nat) : (wordN (bitsF n f)).testBit i = (decide (i < n) && f i) := by
  rw [wordN_testBit _ (bitsF_is n f)]
  by_cases h : i < n
  · rw [bitsF_getD h]; cases f i <;> simp [bit, h]
  · have : (bitsF n f).getD i 0 = 0 := by
      rw [List.getD_eq_getElem?_getD, List.getElem?_eq_none (by rw [bitsF_length]; omega)]; rfl
    rw [this]; simp [h]
/-- a word is its bits -/
theorem wordN_self {x : Nat} (h : x < 18446744073709551616) : wordN (bitsF 64 x.testBit) = x := by
  apply Nat.eq_of_testBit_eq
  intro i
  rw [wordN_bitsF]
  by_cases hi : i < 64
  · simp [hi]
  · have := testBit_of_lt64 (x := x) (i := i) h (by omega)
    simp [hi, this]
/-- a field's value, bit by bit -/
theorem wordN_get (x a n : Nat) : wordN (bitsF n (fun i => x.testBit (a + i))) = x / 2 ^ a % 2 ^ n := by
  apply Nat.eq_of_testBit_eq
  intro i
  rw [wordN_bitsF, Nat.testBit_mod_two_pow, Nat.testBit_div_two_pow, Nat.add_comm]
/-- a field put, bit by bit -/
theorem wordN_put {w a n v : Nat} (hw : w < 18446744073709551616) (han : a + n ≤ 64) (hv : v < 2 ^ n) : wordN (bitsF 64 (putBit w a n v)) = w - (w / 2 ^ a % 2 ^ n) * 2 ^ a + v * 2 ^ a := by
  rw [← (put_sum hw han hv).1]
  apply Nat.eq_of_testBit_eq
  intro i
  rw [wordN_bitsF, put_testBit hw han hv]
  by_cases hi : i < 64
  · simp [hi]
  · have : putBit w a n v i = false := by
      unfold putBit
      rw [if_neg (by omega), testBit_of_lt64 hw (by omega)]
    simp [this]
theorem putBit_succ (w a i v : Nat) : (fun k => if k = a + i then v.testBit i else putBit w a i v k) = putBit w a (i + 1) v := by
  funext k
  unfold putBit
  by_cases h : k = a + i
  · subst h
    rw [if_pos rfl, if_pos (by omega)]; congr 1; omega
  · rw [if_neg h]
    by_cases h2 : a ≤ k ∧ k < a + i
    · rw [if_pos h2, if_pos (by omega)]
    · rw [if_neg h2, if_neg (by omega)]
theorem putBit_zero (w a v : Nat) : putBit w a 0 v = w.testBit := by
  funext k; unfold putBit; rw [if_neg (by omega)]

theorem getZ_nat (x a n : Nat) : getZ x a n = ((x / 2 ^ a % 2 ^ n : Nat) : Int) := by
  unfold getZ
  simp only [Int.toNat_natCast]
  rw [Int.natCast_emod, Int.natCast_ediv, cast_pow2, cast_pow2]
theorem putZ_nat {x a n v : Nat} (h : (x / 2 ^ a % 2 ^ n) * 2 ^ a ≤ x) : putZ x a n v = ((x - (x / 2 ^ a % 2 ^ n) * 2 ^ a + v * 2 ^ a : Nat) : Int) := by
  unfold putZ
  rw [getZ_nat]
  simp only [Int.toNat_natCast]
  rw [Int.natCast_add, Int.natCast_sub h, Int.natCast_mul, Int.natCast_mul, cast_pow2]
theorem mod2_bit (x : Nat) : ((x % 2 : Nat) : Int) = bit (x.testBit 0) := by
  rw [Nat.testBit_zero]
  rcases Nat.mod_two_eq_zero_or_one x with h | h <;> simp [h, bit]
theorem wordN_drop {l : List Int} {i : Nat} (h : i < l.length) : wordN (l.drop i) = 2 * wordN (l.drop (i + 1)) + (l.getD i 0).toNat := by
  rw [List.drop_eq_getElem_cons h]
  simp [wordN, List.getElem?_eq_getElem h]
theorem isBits_drop {l : List Int} (h : isBits l) (i : Nat) : isBits (l.drop i) := fun b hb => h b (List.mem_of_mem_drop hb)
theorem isBits_getD {l : List Int} (h : isBits l) (i : Nat) : l.getD i 0 = 0 ∨ l.getD i 0 = 1 := by
  rw [List.getD_eq_getElem?_getD]
  cases hg : l[i]? with
  | none => simp
  | some b => exact h b (List.mem_of_getElem? hg)
end Go.HX
