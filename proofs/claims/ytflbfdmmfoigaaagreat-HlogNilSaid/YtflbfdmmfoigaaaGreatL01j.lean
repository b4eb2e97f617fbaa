/- Plain facts on fields side by side (layer 1). -/
import Derived.Test.YtflbfdmmfoigaaaGreatL01b
namespace Go.HX
open Go

/-- Are they widths of one word's fields? -/
def fitP : Int → List Int → Prop
  | _, [] => True
  | left, n :: r => 1 ≤ n ∧ n ≤ left ∧ fitP (left - n) r
instance fitP.dec : (l : List Int) → (left : Int) → Decidable (fitP left l)
  | [], _ => .isTrue trivial
  | n :: r, left => by
    have := fitP.dec r (left - n)
    unfold fitP
    infer_instance
theorem fitP_len : ∀ {l : List Int} {left : Int}, fitP left l → 0 ≤ left → (l.length : Int) ≤ left
  | [], left, _, h0 => by simpa using h0
  | n :: r, left, h, h0 => by
    have := fitP_len h.2.2 (by have := h.2.1; omega)
    have := h.1
    simp only [List.length_cons]
    omega
theorem drop_getD {l : List Int} {i : Nat} (h : i < l.length) : l.drop i = l.getD i 0 :: l.drop (i + 1) := by
  rw [List.drop_eq_getElem_cons h, List.getD_eq_getElem?_getD, List.getElem?_eq_getElem h]
  rfl
theorem fitP_drop {l : List Int} {i : Nat} {left : Int} (h : i < l.length) : fitP left (l.drop i) ↔ (1 ≤ l.getD i 0 ∧ l.getD i 0 ≤ left ∧ fitP (left - l.getD i 0) (l.drop (i + 1))) := by
  rw [drop_getD h]
  rfl
/-- The word of values. -/
def joinV : Int → Int → List Int → List Int → Int × Int
  | x, a, v :: vs, n :: ns => if (putV x a n v).2 = 0 then joinV (putV x a n v).1 (a + n) vs ns else (0, (putV x a n v).2)
  | x, _, _, _ => (x, 0)
theorem joinV_drop {vs ns : List Int} {i : Nat} (x a : Int) (h : i < ns.length) (hl : vs.length = ns.length) :
    joinV x a (vs.drop i) (ns.drop i) = if (putV x a (ns.getD i 0) (vs.getD i 0)).2 = 0 then joinV (putV x a (ns.getD i 0) (vs.getD i 0)).1 (a + ns.getD i 0) (vs.drop (i + 1)) (ns.drop (i + 1)) else (0, (putV x a (ns.getD i 0) (vs.getD i 0)).2) := by
  rw [drop_getD h, drop_getD (show i < vs.length by omega)]
  rfl
theorem joinV_end {vs ns : List Int} {i : Nat} (x a : Int) (h : ns.length ≤ i) : joinV x a (vs.drop i) (ns.drop i) = (x, 0) := by
  rw [List.drop_eq_nil_of_le h]
  cases vs.drop i <;> rfl
/-- Values side by side. -/
def spreadV (w : Int) : Int → List Int → List Int
  | _, [] => []
  | a, n :: ns => getV w a n :: spreadV w (a + n) ns
theorem spreadV_length (w : Int) : ∀ (ns : List Int) (a : Int), (spreadV w a ns).length = ns.length
  | [], _ => rfl
  | n :: ns, a => by simp [spreadV, spreadV_length w ns (a + n)]
/-- The places: of the i-th field. -/
def placeZ (ns : List Int) (i : Nat) : Int := (ns.take i).sum
theorem placeZ_zero (ns : List Int) : placeZ ns 0 = 0 := rfl
theorem placeZ_next {ns : List Int} {i : Nat} (h : i < ns.length) : placeZ ns (i + 1) = placeZ ns i + ns.getD i 0 := by
  unfold placeZ
  rw [List.take_add_one, List.getElem?_eq_getElem h, List.sum_append]
  simp [List.getD_eq_getElem?_getD, List.getElem?_eq_getElem h]
/-- What is left after the first i widths. -/
theorem fit_at {ns : List Int} (hf : fitP 64 ns) : ∀ i, i ≤ ns.length → fitP (64 - placeZ ns i) (ns.drop i) ∧ 0 ≤ placeZ ns i ∧ placeZ ns i ≤ 64
  | 0, _ => by rw [placeZ_zero]; exact ⟨hf, by omega, by omega⟩
  | i + 1, h => by
    obtain ⟨h1, h2, h3⟩ := fit_at hf i (by omega)
    rw [fitP_drop (by omega)] at h1
    rw [placeZ_next (by omega)]
    refine ⟨?_, by omega, by omega⟩
    have e : 64 - (placeZ ns i + ns.getD i 0) = 64 - placeZ ns i - ns.getD i 0 := by omega
    rw [e]
    exact h1.2.2
theorem fit_right {ns : List Int} (hf : fitP 64 ns) {i : Nat} (h : i < ns.length) : 1 ≤ ns.getD i 0 ∧ ns.getD i 0 ≤ 64 - placeZ ns i ∧ 0 ≤ placeZ ns i := by
  obtain ⟨h1, h2, h3⟩ := fit_at hf i (by omega)
  rw [fitP_drop h] at h1
  exact ⟨h1.1, h1.2.1, h2⟩
theorem spreadV_next {w : Int} : ∀ {ns : List Int} {i : Nat} (a : Int), i < ns.length → (spreadV w a ns).take (i + 1) = (spreadV w a ns).take i ++ [getV w (a + placeZ ns i) (ns.getD i 0)]
  | n :: ns, 0, a, _ => by simp [spreadV, placeZ]
  | n :: ns, i + 1, a, h => by
    have ih := spreadV_next (w := w) (ns := ns) (i := i) (a + n) (by simpa using h)
    rw [spreadV, List.take_succ_cons, List.take_succ_cons, ih]
    have e : a + n + placeZ ns i = a + placeZ (n :: ns) (i + 1) := by
      simp [placeZ, Int.add_assoc]
    rw [e]
    simp
theorem spreadV_getD {w : Int} : ∀ {ns : List Int} {i : Nat} (a : Int), i < ns.length → (spreadV w a ns).getD i 0 = getV w (a + placeZ ns i) (ns.getD i 0)
  | n :: ns, 0, a, _ => by simp [spreadV, placeZ]
  | n :: ns, i + 1, a, h => by
    have ih := spreadV_getD (w := w) (ns := ns) (i := i) (a + n) (by simpa using h)
    have e : a + n + placeZ ns i = a + placeZ (n :: ns) (i + 1) := by
      simp [placeZ, Int.add_assoc]
    rw [spreadV, List.getD_cons_succ, List.getD_cons_succ, ih, e]
theorem wordN_append : ∀ (l m : List Int), wordN (l ++ m) = wordN l + wordN m * 2 ^ l.length
  | [], m => by simp [wordN]
  | b :: l, m => by
    have ih := wordN_append l m
    rw [List.cons_append, wordN, ih, wordN, List.length_cons, Nat.pow_succ, Nat.mul_add]
    rw [show wordN m * (2 ^ l.length * 2) = 2 * (wordN m * 2 ^ l.length) by rw [← Nat.mul_assoc, Nat.mul_comm]]
    omega
theorem wordN_bits {n v : Nat} (h : v < 2 ^ n) : wordN (bitsF n v.testBit) = v := by
  have := wordN_get v 0 n
  simp only [Nat.zero_add, Nat.pow_zero, Nat.div_one] at this
  rw [this, Nat.mod_eq_of_lt h]
theorem isBits_append {l m : List Int} (h1 : isBits l) (h2 : isBits m) : isBits (l ++ m) := by
  intro b hb
  rcases List.mem_append.1 hb with hb | hb
  · exact h1 b hb
  · exact h2 b hb
theorem bitsF_take {n m : Nat} (f : Nat → Bool) (h : m ≤ n) : (bitsF n f).take m = bitsF m f := by
  have := bitsF_slice n 0 m f (by omega)
  simpa using this
end Go.HX
