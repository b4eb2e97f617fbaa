/- Plain facts: bytes as words, eight a word, the lowest first. -/
import Derived.Test.YtjlpjhbmfakpjaaL01r
namespace Go.HX
open Go

def bsOf (s : ByteArray) : List Nat := s.data.toList.map UInt8.toNat
def leN : List Nat → Nat
  | [] => 0
  | b :: r => b + 256 * leN r
def isBytes (l : List Nat) : Prop := ∀ b ∈ l, b < 256
def wordAt (bs : List Nat) (j : Nat) : Nat := leN ((bs.drop (8 * j)).take 8)
def wordsN (bs : List Nat) : List Int := (List.range ((bs.length + 7) / 8)).map (fun j => ((wordAt bs j : Nat) : Int))
/-- the words when i bytes are done -/
def wordsP (n : Nat) (bs : List Nat) (i : Nat) : List Int := (List.range n).map (fun j => ((wordAt (bs.take i) j : Nat) : Int))

theorem bsOf_length (s : ByteArray) : (bsOf s).length = s.size := by
  unfold bsOf; rw [List.length_map, Array.length_toList]; rfl
theorem bsOf_bytes (s : ByteArray) : isBytes (bsOf s) := by
  intro b hb
  simp [bsOf] at hb
  obtain ⟨c, _, rfl⟩ := hb
  exact c.toNat_lt
theorem bsOf_get {s : ByteArray} {i : Nat} (h : i < s.size) : (s[i]!).toNat = (bsOf s).getD i 0 := by
  rw [getElem!_pos s i h]
  have h' : i < s.data.toList.length := by rw [Array.length_toList]; exact h
  simp [bsOf, List.getElem?_eq_getElem h']
  rfl
theorem g_ixsB {P : Program} {N : Nat} {e : Env} {w : World} {x i : Operand} {s : ByteArray} {j : Int} {n : Nat} {kd : IntKind} (hx : Env.val e x = some (.string s)) (hi : Env.val e i = some (.int kd j)) (hj : j = n) (h1 : n < s.size) :
    Gives P N (.ixs x i) e w (.int .u8 (((bsOf s).getD n 0 : Nat) : Int)) := by
  rw [← bsOf_get h1]; exact g_ixsN hx hi hj h1
theorem leN_append : ∀ (c : List Nat) (b : Nat), leN (c ++ [b]) = leN c + b * 256 ^ c.length
  | [], b => by simp [leN]
  | a :: c, b => by
    simp only [List.cons_append, leN, leN_append c b, List.length_cons, Nat.pow_succ]
    rw [Nat.mul_add]
    have : 256 * (b * 256 ^ c.length) = b * (256 ^ c.length * 256) := by rw [Nat.mul_comm (256 ^ c.length) 256, Nat.mul_left_comm]
    omega
theorem leN_lt : ∀ (c : List Nat), isBytes c → leN c < 256 ^ c.length
  | [], _ => by simp [leN]
  | a :: c, h => by
    have ih := leN_lt c (fun b hb => h b (List.mem_cons_of_mem _ hb))
    have ha := h a (List.mem_cons_self ..)
    simp only [leN, List.length_cons, Nat.pow_succ]
    omega
theorem pow256 (n : Nat) : 256 ^ n = 2 ^ (8 * n) := by rw [Nat.pow_mul]
theorem isBytes_take {l : List Nat} (h : isBytes l) (n : Nat) : isBytes (l.take n) := fun b hb => h b (List.mem_of_mem_take hb)
theorem isBytes_drop {l : List Nat} (h : isBytes l) (n : Nat) : isBytes (l.drop n) := fun b hb => h b (List.mem_of_mem_drop hb)
theorem isBytes_getD {l : List Nat} (h : isBytes l) (i : Nat) : l.getD i 0 < 256 := by
  rw [List.getD_eq_getElem?_getD]
  cases hg : l[i]? with
  | none => simp
  | some b => exact h b (List.mem_of_getElem? hg)
theorem wordAt_lt {bs : List Nat} (h : isBytes bs) (j : Nat) : wordAt bs j < 18446744073709551616 := by
  unfold wordAt
  have h1 := leN_lt _ (isBytes_take (isBytes_drop h (8 * j)) 8)
  have h2 : ((bs.drop (8 * j)).take 8).length ≤ 8 := by simp; omega
  have h3 : 256 ^ ((bs.drop (8 * j)).take 8).length ≤ 256 ^ 8 := Nat.pow_le_pow_right (by decide) h2
  have h4 : (256 : Nat) ^ 8 = 18446744073709551616 := by decide
  omega
theorem leN_or {x b k : Nat} (h : x < 2 ^ k) : x ||| b * 2 ^ k = x + b * 2 ^ k := by
  have := Nat.two_pow_add_eq_or_of_lt h b
  rw [Nat.or_comm, Nat.mul_comm b, ← this, Nat.add_comm]

theorem take_drop_snoc {bs : List Nat} {i : Nat} (hi : i < bs.length) (j : Nat) :
    ((bs.take (i + 1)).drop (8 * j)).take 8 = if j = i / 8 then ((bs.take i).drop (8 * j)).take 8 ++ [bs.getD i 0] else ((bs.take i).drop (8 * j)).take 8 := by
  have hg : bs.getD i 0 = bs[i] := by simp [List.getElem?_eq_getElem hi]
  by_cases hj : j = i / 8
  · rw [if_pos hj, hg]
    apply List.ext_getElem?
    intro k
    have hl : (((bs.take i).drop (8 * j)).take 8).length = i - 8 * j := by simp; omega
    rw [List.getElem?_append, hl]
    simp only [List.getElem?_take, List.getElem?_drop]
    by_cases h1 : k < i - 8 * j
    · rw [if_pos h1, if_pos (by omega), if_pos (by omega), if_pos (by omega), if_pos (by omega)]
    · rw [if_neg h1]
      by_cases h2 : k = i - 8 * j
      · rw [if_pos (by omega), if_pos (by omega), h2, Nat.sub_self]
        have : 8 * j + (i - 8 * j) = i := by omega
        rw [this, List.getElem?_eq_getElem hi]
        rfl
      · have : k - (i - 8 * j) = (k - (i - 8 * j) - 1) + 1 := by omega
        rw [this]
        simp
        omega
  · rw [if_neg hj]
    apply List.ext_getElem?
    intro k
    simp only [List.getElem?_take, List.getElem?_drop]
    by_cases h0 : k < 8
    · rw [if_pos h0, if_pos h0]
      by_cases h1 : 8 * j + k < i
      · rw [if_pos (by omega), if_pos h1]
      · rw [if_neg (by omega), if_neg h1]
    · rw [if_neg h0, if_neg h0]
theorem wordAt_other {bs : List Nat} {i j : Nat} (hi : i < bs.length) (hj : j ≠ i / 8) : wordAt (bs.take (i + 1)) j = wordAt (bs.take i) j := by
  unfold wordAt
  rw [take_drop_snoc hi j, if_neg hj]
theorem chunk_len {bs : List Nat} {i : Nat} (hi : i < bs.length) : (((bs.take i).drop (8 * (i / 8))).take 8).length = i % 8 := by simp; omega
theorem wordAt_next {bs : List Nat} (hb : isBytes bs) {i : Nat} (hi : i < bs.length) :
    wordAt (bs.take i) (i / 8) ||| bs.getD i 0 * 2 ^ (i % 8 * 8) = wordAt (bs.take (i + 1)) (i / 8) := by
  unfold wordAt
  rw [take_drop_snoc hi, if_pos rfl, leN_append, chunk_len hi, pow256, Nat.mul_comm (i % 8)]
  refine leN_or ?_
  have := leN_lt _ (isBytes_take (isBytes_drop (isBytes_take hb i) (8 * (i / 8))) 8)
  rw [chunk_len hi, pow256] at this
  exact this
theorem wordsP_length (n : Nat) (bs : List Nat) (i : Nat) : (wordsP n bs i).length = n := by simp [wordsP]
theorem wordsP_getD {n j : Nat} (bs : List Nat) (i : Nat) (h : j < n) : (wordsP n bs i).getD j 0 = ((wordAt (bs.take i) j : Nat) : Int) := by simp [wordsP, h]
theorem wordsP_next {n : Nat} {bs : List Nat} (hb : isBytes bs) {i : Nat} (hi : i < bs.length) :
    (wordsP n bs i).set (i / 8) ((wordAt (bs.take i) (i / 8) ||| bs.getD i 0 * 2 ^ (i % 8 * 8) : Nat) : Int) = wordsP n bs (i + 1) := by
  rw [wordAt_next hb hi]
  apply List.ext_getElem?
  intro j
  rw [List.getElem?_set]
  by_cases h : i / 8 = j
  · subst h
    by_cases hj : i / 8 < n
    · simp [wordsP, hj]
    · simp [wordsP, hj]
  · rw [if_neg h]
    by_cases hj : j < n
    · simp [wordsP, hj, wordAt_other hi (fun e => h e.symm)]
    · simp [wordsP, hj]
theorem wordsP_zero (n : Nat) (bs : List Nat) : wordsP n bs 0 = List.replicate n 0 := by
  unfold wordsP wordAt
  apply List.ext_getElem?
  intro j
  by_cases hj : j < n
  · simp [hj, leN]
  · simp [hj]
theorem wordsP_all (bs : List Nat) : wordsP ((bs.length + 7) / 8) bs bs.length = wordsN bs := by
  unfold wordsP wordsN
  rw [List.take_length]
end Go.HX
