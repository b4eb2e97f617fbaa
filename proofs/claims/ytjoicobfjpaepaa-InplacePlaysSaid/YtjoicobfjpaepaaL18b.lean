/- Layer 18 (inplace): a page with a record; who begins at it. -/
import Derived.Test.YtjoicobfjpaepaaP18t
namespace Go.Proofs.Ytjoicobfjpaepaa
open Go Go.HX
set_option maxRecDepth 4000
set_option maxHeartbeats 1000000
theorem six64 : sizeZ 6 = 64 := by unfold sizeZ; decide
theorem recW_len (r : RecM) : (recW r).length = 3 + (r.key.size + 7) / 8 + (r.val.size + 7) / 8 := by
  unfold recW
  rw [List.length_append, List.length_append, wordsZ_length, wordsZ_length]
  rfl
theorem wordsZ_bnd (s : ByteArray) (i : Nat) : 0 ≤ (wordsZ s).getD i 0 ∧ (wordsZ s).getD i 0 ≤ 18446744073709551615 := by
  rw [wordsZ_get]
  have := leV_lt (byteN_lt s) (8 * i) 8
  have e : (256 : Nat) ^ 8 = 18446744073709551616 := by decide
  omega
/-- A record of the key k. -/
def recK (s : ByteArray) : RecM := ⟨0, false, false, ⟨#[107]⟩, s⟩
def keyK : ByteArray := ⟨#[107]⟩
theorem keyK_size : keyK.size = 1 := rfl
theorem recK_len (s : ByteArray) : (recW (recK s)).length = 4 + (s.size + 7) / 8 := by
  rw [recW_len]
  show 3 + (keyK.size + 7) / 8 + (s.size + 7) / 8 = _
  rw [keyK_size]
theorem recK_bnd {s : ByteArray} (hs : s.size ≤ 128) : ∀ x ∈ recW (recK s), 0 ≤ x ∧ x ≤ 18446744073709551615 := by
  have hw : ∀ (s : ByteArray), ∀ x ∈ wordsZ s, 0 ≤ x ∧ x ≤ 18446744073709551615 := fun s => bnd_mem (wordsZ_bnd s)
  intro x hx
  unfold recW at hx
  rw [List.mem_append, List.mem_append] at hx
  rcases hx with (hx | hx) | hx
  · simp only [List.mem_cons, List.not_mem_nil, or_false] at hx
    rcases hx with rfl | rfl | rfl
    · show 0 ≤ (packV 0 false false).1 ∧ (packV 0 false false).1 ≤ 18446744073709551615
      decide
    · decide
    · have := lengths_bad (k := keyK.size) (v := s.size)
      rw [keyK_size] at this
      show 0 ≤ (lengthsV keyK.size s.size).1 ∧ (lengthsV keyK.size s.size).1 ≤ 18446744073709551615
      rw [keyK_size]
      unfold lengthsV
      split
      · decide
      · split
        · decide
        · simp only; omega
  · exact hw _ x hx
  · exact hw _ x hx
theorem recK_lock (s : ByteArray) : (recW (recK s)).getD 1 0 = 0 := rfl
theorem recK_word (s : ByteArray) (i : Nat) : (recW (recK s)).getD (4 + i) 0 = (wordsZ s).getD i 0 := by
  show ([(packV 0 false false).1, 0, (lengthsV keyK.size s.size).1] ++ wordsZ keyK ++ wordsZ s).getD (4 + i) 0 = _
  have hl : (wordsZ keyK).length = 1 := by rw [wordsZ_length, keyK_size]
  rw [List.getD_eq_getElem?_getD, List.getElem?_append_right (by simp [hl]), List.getD_eq_getElem?_getD]
  congr 2
  simp [hl]
theorem fillRow_getD {ws : List Int} {i : Nat} {l : List Int} (h : i + l.length ≤ ws.length) (j : Nat) : (fillRow ws i l).getD j 0 = if i ≤ j ∧ j < i + l.length then l.getD (j - i) 0 else ws.getD j 0 := by
  unfold fillRow
  rw [List.getD_eq_getElem?_getD]
  have e1 : (ws.take i).length = i := by rw [List.length_take]; omega
  by_cases h1 : j < i
  · rw [if_neg (by omega), List.append_assoc, List.getElem?_append_left (by omega), List.getElem?_take, if_pos h1, List.getD_eq_getElem?_getD]
  · by_cases h2 : j < i + l.length
    · rw [if_pos ⟨by omega, h2⟩, List.append_assoc, List.getElem?_append_right (by omega), e1, List.getElem?_append_left (by omega), List.getD_eq_getElem?_getD]
    · rw [if_neg (by omega), List.getElem?_append_right (by rw [List.length_append, e1]; omega), List.length_append, e1, List.getElem?_drop, List.getD_eq_getElem?_getD]
      congr 2
      omega
/-- The page 0 of a buffer of two frames is opened. -/
def bufP (ws : List Int) (a b : Int) (h : RowM) : BufM := ⟨6, ⟨ws, a, b⟩, h⟩
theorem open_0 : (buf0 6 2).openR 0 = (0, bufP (List.replicate 128 0) 0 0 ⟨[1, 0], 1, 0⟩) := by
  unfold BufM.openR buf0 BufM.has BufM.frame
  rw [six64]
  rfl
theorem onpage_begin {s : ByteArray} (hs : s.size ≤ 128) : OnPage (bufP (fillRow (List.replicate 128 0) 1 (recW (recK s))) 0 0 ⟨[1, 0], 1, 0⟩) ⟨false, 0, wordsZ s⟩ s.size := by
  have hl := recK_len s
  have hfl : 1 + (recW (recK s)).length ≤ (List.replicate 128 (0 : Int)).length := by rw [List.length_replicate]; omega
  refine ⟨rfl, rfl, rfl, ?_, ?_, fun i hi => ?_, ⟨wordsZ_length s, hs⟩, ⟨by simp, by simp⟩, wordsZ_bnd s, tail_words s⟩
  · show (fillRow _ _ _).length = 128
    rw [fillRow_length hfl, List.length_replicate]
  · show (fillRow _ _ _).getD 2 0 = 0
    rw [fillRow_getD hfl, if_pos (by omega)]
    exact recK_lock s
  · show (fillRow _ _ _).getD (5 + i) 0 = (wordsZ s).getD i 0
    have hi : i < (wordsZ s).length := hi
    rw [wordsZ_length] at hi
    rw [fillRow_getD hfl, if_pos (by omega), show 5 + i - 1 = 4 + i by omega]
    exact recK_word s i
theorem place_k {n : Nat} (hn : n ≤ 128) : placeP 6 1 1 n ∧ sizeV 1 n = 4 + ((n + 7) / 8 : Nat) ∧ sizeV 1 0 = 4 := by
  have h1 := sizeV_of (k := 1) (v := n) (by omega) hn
  have h2 := sizeV_of (k := 1) (v := 0) (by omega) (by omega)
  have e1 : sizeV 1 n = 4 + ((n + 7) / 8 : Nat) := by rw [show (1 : Int) = ((1 : Nat) : Int) from rfl, h1]; omega
  have e2 : sizeV 1 0 = 4 := by rw [show (1 : Int) = ((1 : Nat) : Int) from rfl, show (0 : Int) = ((0 : Nat) : Int) from rfl, h2]; omega
  have h3 : roomZ 6 1 = 63 := by
    unfold roomZ
    rw [six64]
    decide
  refine ⟨⟨by decide, ?_, ?_⟩, e1, e2⟩
  · rw [e1]; omega
  · rw [e1, h3]; omega
theorem isWr_new {v : ByteArray} {c : CelM} {n : Nat} (hv : v.size = n) (hc : c.l.length = (n + 7) / 8) (hn : n ≤ 128) : IsWr ⟨1 + 1, 1 + sizeV 1 0, sizeV 1 v.size - sizeV 1 0, 0, false, 0, 0, 0⟩ (wordsZ v) ⟨false, false, 0, wordsZ v, 0, false, 0, []⟩ c n := by
  subst hv
  obtain ⟨_, e1, e2⟩ := place_k hn
  rw [e1, e2]
  refine ⟨rfl, rfl, by simp only; omega, rfl, rfl, rfl, by rw [wordsZ_length]; omega, fun he => absurd he (by simp), ⟨by simp, by simp⟩, wordsZ_bnd v, tail_words v, fun _ => rfl, fun he => absurd he (by simp), fun _ _ => ⟨rfl, rfl⟩, fun _ he => absurd he (by simp), fun _ he => absurd he (by simp), fun _ he => absurd he (by simp)⟩
theorem isWr_add {m : Int} {c : CelM} (m0 : 0 ≤ m) (m1 : m ≤ 18446744073709551615) (hc : c.l.length = 1) : IsWr ⟨1 + 1, 1 + sizeV 1 0, sizeV 1 8 - sizeV 1 0, 0, true, m, 0, 0⟩ (wordsZ (valueV 0)) ⟨false, true, m, [], 0, false, 0, []⟩ c 8 := by
  obtain ⟨_, e1, e2⟩ := place_k (n := 8) (by decide)
  have e1 : sizeV 1 8 = 5 := e1
  rw [e1, e2]
  have hs := valueV_size 0
  refine ⟨rfl, rfl, by simp only; omega, rfl, rfl, rfl, by rw [wordsZ_length, hs]; omega, fun _ => ⟨hc, rfl⟩, ⟨m0, m1⟩, wordsZ_bnd _, tail_eight _ (by rw [wordsZ_length, hs]; decide), fun he => absurd he (by simp), fun he => absurd he (by simp), fun _ _ => ⟨rfl, rfl⟩, fun _ he => absurd he (by simp), fun _ he => absurd he (by simp), fun _ he => absurd he (by simp)⟩
theorem isRd_new {c : CelM} {n : Nat} (hc : c.l.length = (n + 7) / 8) (hn : n ≤ 128) : IsRd ⟨1 + 1, 1 + sizeV 1 0, sizeV 1 n - sizeV 1 0, 0, n, 0, ⟨#[]⟩⟩ [] ⟨true, false, 0, [], 0, false, 0, []⟩ c n := by
  obtain ⟨_, e1, e2⟩ := place_k hn
  rw [e1, e2]
  exact ⟨rfl, rfl, by simp only; omega, rfl, rfl, hc, fun i => by simp, fun he => absurd he (by simp), fun _ => rfl, fun _ _ => rfl, fun _ he => absurd he (by simp)⟩
theorem words_value {n : Int} (n0 : 0 ≤ n) (n1 : n ≤ 18446744073709551615) : wordsZ (valueV n) = [n] := by
  unfold valueV
  refine (words_bytes (fun i => ?_) rfl).2 (tail_one n)
  rcases i with _ | i
  · exact ⟨n0, n1⟩
  · simp
/-- The adder's moves, one after the other. -/
def awkS : Nat → WkM × CelM
  | 0 => (⟨false, true, 7, [], 0, false, 0, []⟩, ⟨false, 0, [5]⟩)
  | n + 1 => ((awkS n).1.move (awkS n).2).2
theorem awkS_more {n : Nat} (h : n < 3) : ((awkS n).1.move (awkS n).2).1 = 1 := by
  rcases n with _ | _ | _ | n
  · rfl
  · rfl
  · rfl
  · omega
theorem awkS_done : ((awkS 3).1.move (awkS 3).2).1 = 2 := rfl
theorem awkS_sum : (awkS 4).2.l = [12] := rfl
end Go.Proofs.Ytjoicobfjpaepaa
