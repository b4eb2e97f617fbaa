/- Layer 29 (meter): shares; the middle is between: plain laws. -/
import Derived.Test.YtojopmkekimpjaaP29m
namespace Go.Proofs.Ytojopmkekimpjaa
open Go Go.HX
set_option maxRecDepth 4000
set_option maxHeartbeats 1000000
/-- How many are so. -/
def leN (s : List Int) (n : Int) : Nat := s.countP fun z => decide (z ≤ n)
def ltN (s : List Int) (n : Int) : Nat := s.countP fun z => decide (z < n)
theorem leN_next {s : List Int} {k : Nat} {z : Int} (hz : s[k]? = some z) (n : Int) : leN (s.take (k + 1)) n = leN (s.take k) n + if z ≤ n then 1 else 0 := by
  rw [take_next hz]
  unfold leN
  rw [List.countP_append, List.countP_cons, List.countP_nil]
  by_cases h : z ≤ n
  · rw [if_pos h, if_pos (by simpa using h)]
  · rw [if_neg h, if_neg (by simpa using h)]
theorem ltN_next {s : List Int} {k : Nat} {z : Int} (hz : s[k]? = some z) (n : Int) : ltN (s.take (k + 1)) n = ltN (s.take k) n + if z < n then 1 else 0 := by
  rw [take_next hz]
  unfold ltN
  rw [List.countP_append, List.countP_cons, List.countP_nil]
  by_cases h : z < n
  · rw [if_pos h, if_pos (by simpa using h)]
  · rw [if_neg h, if_neg (by simpa using h)]
theorem leN_bnd (s : List Int) (n : Int) : leN s n ≤ s.length := List.countP_le_length
theorem ltN_bnd (s : List Int) (n : Int) : ltN s n ≤ s.length := List.countP_le_length
theorem getD_mem' {s : List Int} {i : Nat} {z : Int} (h : s[i]? = some z) : s.getD i 0 = z := by rw [List.getD_eq_getElem?_getD, h]; rfl
theorem leN_at {s : List Int} (hs : Sorted s) {i : Nat} (hi : i < s.length) : i + 1 ≤ leN s (s.getD i 0) := by
  have h1 : leN (s.take (i + 1)) (s.getD i 0) = i + 1 := by
    unfold leN
    rw [List.countP_eq_length.2 (fun z hz => ?_), List.length_take]
    · omega
    · obtain ⟨j, hj⟩ := List.mem_iff_getElem?.1 hz
      have hjl := (List.getElem?_eq_some_iff.1 hj).1
      rw [List.length_take] at hjl
      rw [List.getElem?_take_of_lt (by omega)] at hj
      have := sorted_get hs (show j ≤ i by omega) hi
      rw [getD_mem' hj] at this
      simpa using this
  have h2 : leN s (s.getD i 0) = leN (s.take (i + 1)) (s.getD i 0) + leN (s.drop (i + 1)) (s.getD i 0) := by
    unfold leN
    rw [← List.countP_append, List.take_append_drop]
  omega
theorem ltN_at {s : List Int} (hs : Sorted s) {i : Nat} (hi : i < s.length) : ltN s (s.getD i 0) ≤ i := by
  have h1 : ltN (s.drop i) (s.getD i 0) = 0 := by
    unfold ltN
    rw [List.countP_eq_zero]
    intro z hz
    obtain ⟨j, hj⟩ := List.mem_iff_getElem?.1 hz
    have hjl := (List.getElem?_eq_some_iff.1 hj).1
    rw [List.length_drop] at hjl
    rw [List.getElem?_drop] at hj
    have := sorted_get hs (show i ≤ i + j by omega) (by omega)
    rw [getD_mem' hj] at this
    simpa using this
  have h2 : ltN s (s.getD i 0) = ltN (s.take i) (s.getD i 0) + ltN (s.drop i) (s.getD i 0) := by
    unfold ltN
    rw [← List.countP_append, List.take_append_drop]
  have h3 := ltN_bnd (s.take i) (s.getD i 0)
  rw [List.length_take] at h3
  omega
/-- So many aren't above it, and of no lesser one. -/
theorem share_law {s : List Int} {part of : Int} (hs : Sorted s) (hl : 0 < s.length) (h0 : 0 ≤ part) (h1 : part ≤ of) (h2 : 1 ≤ of) :
    part * s.length ≤ (leN s (shareV s part of) : Int) * of ∧ (ltN s (shareV s part of) = 0 ∨ (ltN s (shareV s part of) : Int) * of < part * s.length) := by
  obtain ⟨b1, b2, b3, b4⟩ := share_bnd (n := s.length) h0 h1 h2
  unfold shareV
  obtain ⟨i, hi⟩ := Int.eq_ofNat_of_zero_le (show 0 ≤ max ((part * (s.length : Int) + of - 1) / of - 1) 0 by omega)
  rw [hi, Int.toNat_natCast]
  have hil : i < s.length := by omega
  have e1 := leN_at hs hil
  have e2 := ltN_at hs hil
  have hd := Int.mul_ediv_add_emod (part * (s.length : Int) + of - 1) of
  have hm1 := Int.emod_nonneg (part * (s.length : Int) + of - 1) (show of ≠ 0 by omega)
  have hm2 := Int.emod_lt_of_pos (part * (s.length : Int) + of - 1) (show 0 < of by omega)
  generalize hq : (part * (s.length : Int) + of - 1) / of = q at *
  generalize hr : (part * (s.length : Int) + of - 1) % of = r at *
  rw [Int.mul_comm of q] at hd
  have hqi : q ≤ (i : Int) + 1 := by omega
  have g1 : q * of ≤ (leN s (s.getD i 0) : Int) * of := Int.mul_le_mul_of_nonneg_right (by omega) (by omega)
  refine ⟨by omega, ?_⟩
  rcases Nat.eq_zero_or_pos (ltN s (s.getD i 0)) with hz | hp
  · exact .inl hz
  · right
    have g2 : (ltN s (s.getD i 0) : Int) * of ≤ (q - 1) * of := Int.mul_le_mul_of_nonneg_right (by omega) (by omega)
    rw [Int.sub_mul, Int.one_mul] at g2
    omega
theorem share_mid {s : List Int} (hl : 0 < s.length) : shareV s 1 2 = s.getD ((s.length - 1) / 2) 0 := by
  unfold shareV
  congr 1
  omega
/-! ### the middle is between -/
theorem max_from : ∀ {l : List EvM}, l ≠ [] → ∃ e ∈ l, ∀ y ∈ l, y.from_ ≤ e.from_
  | [], h => absurd rfl h
  | [e], _ => ⟨e, List.mem_cons_self .., fun y hy => by rw [List.mem_singleton.1 hy]; exact Int.le_refl _⟩
  | a :: b :: l, _ => by
    obtain ⟨e, he, hm⟩ := max_from (l := b :: l) (by simp)
    rcases Int.le_total a.from_ e.from_ with h | h
    · refine ⟨e, List.mem_cons_of_mem _ he, fun y hy => ?_⟩
      rcases List.mem_cons.1 hy with rfl | hy
      · exact h
      · exact hm y hy
    · refine ⟨a, List.mem_cons_self .., fun y hy => ?_⟩
      rcases List.mem_cons.1 hy with rfl | hy
      · exact Int.le_refl _
      · have := hm y hy; omega
theorem open_count : ∀ l : List EvM, (l.countP fun e => decide (e.to = 0)) + (waitsE l).length = l.length
  | [] => rfl
  | e :: l => by
    have ih := open_count l
    rw [List.countP_cons, waits_cons, List.length_append, List.length_cons]
    by_cases h : e.to = 0
    · rw [if_pos (by simpa using h), if_neg (fun hx => hx h)]; simp only [List.length_nil]; omega
    · rw [if_neg (by simpa using h), if_pos h]; simp only [List.length_cons, List.length_nil]; omega
theorem wide_bnd {l : List EvM} (hm : ∀ e ∈ l, e.right) : wideN l l ≤ l.length ∧ (0 < wideN l l ↔ 0 < l.length) ∧ l.length - (waitsE l).length ≤ wideN l l := by
  have h1 : wideN l l ≤ l.length := wideN_le (fun e _ => openN_le l e.from_)
  refine ⟨h1, ⟨fun h => by omega, fun h => ?_⟩, ?_⟩
  · obtain ⟨e, he⟩ := has_elem (show 0 < l.length from h)
    have hme := List.mem_of_getElem? he
    have h2 := wideN_ge (l := l) hme
    have hr := hm e hme
    unfold EvM.right at hr
    have h3 : 0 < openN l e.from_ := by
      unfold openN
      rw [List.countP_pos_iff]
      refine ⟨e, hme, ?_⟩
      simp only [decide_eq_true_eq]
      unfold EvM.open_
      omega
    omega
  · have h4 := open_count l
    rcases Nat.eq_zero_or_pos l.length with h0 | hp
    · omega
    · obtain ⟨e, he, hmx⟩ := max_from (l := l) (fun h => by rw [h] at hp; simp at hp)
      have h2 := wideN_ge (l := l) he
      have h5 : (l.countP fun e => decide (e.to = 0)) ≤ openN l e.from_ := by
        unfold openN
        refine List.countP_mono_left (fun y hy hy0 => ?_)
        simp only [decide_eq_true_eq] at hy0 ⊢
        exact ⟨hmx y hy, .inl hy0⟩
      omega
theorem between_law {s : List Int} (hs : Sorted s) : s.getD 0 0 ≤ s.getD ((s.length - 1) / 2) 0 ∧ s.getD ((s.length - 1) / 2) 0 ≤ s.getD (s.length - 1) 0 ∧ (s.length : Int) * s.getD 0 0 ≤ sumI s ∧ sumI s ≤ (s.length : Int) * s.getD (s.length - 1) 0 := by
  rcases Nat.eq_zero_or_pos s.length with h0 | hp
  · obtain rfl : s = [] := List.eq_nil_of_length_eq_zero h0
    exact ⟨Int.le_refl _, Int.le_refl _, by decide, by decide⟩
  · have hb : ∀ z ∈ s, s.getD 0 0 ≤ z ∧ z ≤ s.getD (s.length - 1) 0 := fun z hz => by
      obtain ⟨j, hj⟩ := List.mem_iff_getElem?.1 hz
      have hjl := (List.getElem?_eq_some_iff.1 hj).1
      have h1 := sorted_get hs (show 0 ≤ j by omega) hjl
      have h2 := sorted_get hs (show j ≤ s.length - 1 by omega) (by omega)
      rw [getD_mem' hj] at h1 h2
      exact ⟨h1, h2⟩
    obtain ⟨h3, h4⟩ := sumI_bnd hb
    exact ⟨sorted_get hs (by omega) (by omega), sorted_get hs (by omega) (by omega), h3, h4⟩
end Go.Proofs.Ytojopmkekimpjaa
