/- Layer 29 (meter): how many in each run of times: plain laws. -/
import Derived.Test.YtojopmkekimpjaaL29
namespace Go.Proofs.Ytojopmkekimpjaa
open Go Go.HX
set_option maxRecDepth 4000
set_option maxHeartbeats 1000000
/-- The last time that anything was answered at. -/
def lastE (l : List EvM) : Int := l.foldl (fun m e => max m e.to) 0
theorem last_next {l : List EvM} {i : Nat} {e : EvM} (he : l[i]? = some e) : lastE (l.take (i + 1)) = max (lastE (l.take i)) e.to := by
  rw [take_next he]
  unfold lastE
  rw [List.foldl_append]
  rfl
theorem fold_ge : ∀ (l : List EvM) (m : Int), m ≤ l.foldl (fun m e => max m e.to) m ∧ (∀ e ∈ l, e.to ≤ l.foldl (fun m e => max m e.to) m) ∧ ∀ b, m ≤ b → (∀ e ∈ l, e.to ≤ b) → l.foldl (fun m e => max m e.to) m ≤ b
  | [], m => ⟨Int.le_refl _, fun e he => (by cases he), fun _ h _ => h⟩
  | y :: l, m => by
    obtain ⟨h1, h2, h3⟩ := fold_ge l (max m y.to)
    rw [List.foldl_cons]
    refine ⟨by omega, fun e he => ?_, fun b hb hl => h3 b ?_ (fun e he => hl e (List.mem_cons_of_mem _ he))⟩
    · rcases List.mem_cons.1 he with rfl | he
      · omega
      · exact h2 e he
    · have := hl y (List.mem_cons_self ..); omega
theorem last_bnd {l : List EvM} : 0 ≤ lastE l ∧ (∀ e ∈ l, e.to ≤ lastE l) ∧ ∀ b, 0 ≤ b → (∀ e ∈ l, e.to ≤ b) → lastE l ≤ b := fold_ge l 0
/-- How many were answered in a run. -/
def cntE (l : List EvM) (wd k : Int) : Int := (l.countP fun e => decide (e.to ≠ 0 ∧ e.to / wd = k) : Nat)
theorem cnt_next {l : List EvM} {i : Nat} {e : EvM} (he : l[i]? = some e) (wd k : Int) : cntE (l.take (i + 1)) wd k = cntE (l.take i) wd k + if e.to ≠ 0 ∧ e.to / wd = k then 1 else 0 := by
  rw [take_next he]
  unfold cntE
  rw [List.countP_append, List.countP_cons, List.countP_nil]
  by_cases h : e.to ≠ 0 ∧ e.to / wd = k
  · rw [if_pos h, if_pos (by simpa using h)]; rfl
  · rw [if_neg h, if_neg (by simpa using h)]; simp
theorem cnt_bnd (l : List EvM) (wd k : Int) : 0 ≤ cntE l wd k ∧ cntE l wd k ≤ l.length := by
  unfold cntE
  have := List.countP_le_length (p := fun e : EvM => decide (e.to ≠ 0 ∧ e.to / wd = k)) (l := l)
  omega
def ratesE (l : List EvM) (wd : Int) (n : Nat) : List Int := (List.range n).map fun k : Nat => cntE l wd (k : Int)
theorem rates_length (l : List EvM) (wd : Int) (n : Nat) : (ratesE l wd n).length = n := by unfold ratesE; simp
theorem rates_at (l : List EvM) (wd : Int) {n k : Nat} (hk : k < n) : (ratesE l wd n)[k]? = some (cntE l wd k) := by
  unfold ratesE
  rw [List.getElem?_map, List.getElem?_range hk]
  rfl
theorem rates_getD (l : List EvM) (wd : Int) {n k : Nat} (hk : k < n) : (ratesE l wd n).getD k 0 = cntE l wd k := by rw [List.getD_eq_getElem?_getD, rates_at l wd hk]; rfl
theorem rates_none (wd : Int) (n : Nat) : ratesE [] wd n = List.replicate n 0 := by
  apply List.ext_getElem?
  intro k
  by_cases hk : k < n
  · rw [rates_at [] wd hk, List.getElem?_replicate, if_pos hk]; rfl
  · rw [List.getElem?_eq_none (by rw [rates_length]; omega), List.getElem?_eq_none (by simpa using hk)]
theorem rates_skip {l : List EvM} {i : Nat} {e : EvM} (he : l[i]? = some e) (h0 : e.to = 0) (wd : Int) (n : Nat) : ratesE (l.take (i + 1)) wd n = ratesE (l.take i) wd n := by
  unfold ratesE
  apply List.map_congr_left
  intro k _
  rw [cnt_next he, if_neg (fun h => h.1 h0)]
  omega
theorem rates_next {l : List EvM} {i q n : Nat} {e : EvM} {wd : Int} (he : l[i]? = some e) (h0 : e.to ≠ 0) (hq : e.to / wd = q) (hn : q < n) : ratesE (l.take (i + 1)) wd n = (ratesE (l.take i) wd n).set q ((ratesE (l.take i) wd n).getD q 0 + 1) := by
  apply List.ext_getElem?
  intro k
  rw [List.getElem?_set]
  by_cases hk : k < n
  · rw [rates_at _ wd hk, cnt_next he]
    by_cases hqk : q = k
    · subst hqk
      rw [if_pos rfl, if_pos (show q < (ratesE (l.take i) wd n).length by rw [rates_length]; exact hn), rates_getD _ wd hn, if_pos ⟨h0, hq⟩]
    · rw [if_neg hqk, rates_at _ wd hk, if_neg (fun h => hqk (by have := h.2; omega))]
      simp
  · rw [List.getElem?_eq_none (by rw [rates_length]; omega), if_neg (by omega), List.getElem?_eq_none (by rw [rates_length]; omega)]
theorem sum_set : ∀ {s : List Int} {q : Nat} {z : Int}, q < s.length → sumI (s.set q z) = sumI s - s.getD q 0 + z
  | [], _, _, h => by simp at h
  | a :: s, 0, z, _ => by
    show sumI (z :: s) = sumI (a :: s) - a + z
    rw [sumI_cons, sumI_cons]; omega
  | a :: s, q + 1, z, h => by
    show sumI (a :: s.set q z) = sumI (a :: s) - s.getD q 0 + z
    rw [sumI_cons, sumI_cons, sum_set (by simpa using h)]; omega
/-- How many were answered. -/
def doneE (l : List EvM) : Int := (l.countP fun e => decide (e.to ≠ 0) : Nat)
theorem done_next {l : List EvM} {i : Nat} {e : EvM} (he : l[i]? = some e) : doneE (l.take (i + 1)) = doneE (l.take i) + if e.to ≠ 0 then 1 else 0 := by
  rw [take_next he]
  unfold doneE
  rw [List.countP_append, List.countP_cons, List.countP_nil]
  by_cases h : e.to ≠ 0
  · rw [if_pos h, if_pos (by simpa using h)]; rfl
  · rw [if_neg h, if_neg (by simpa using h)]; simp
theorem done_bnd (l : List EvM) : 0 ≤ doneE l ∧ doneE l ≤ l.length := by
  unfold doneE
  have := List.countP_le_length (p := fun e : EvM => decide (e.to ≠ 0)) (l := l)
  omega
theorem sum_noughts : ∀ n : Nat, sumI (List.replicate n 0) = 0
  | 0 => rfl
  | n + 1 => by rw [List.replicate_succ, sumI_cons, sum_noughts n]; rfl
/-- All runs together. -/
theorem rates_sum {l : List EvM} {wd : Int} {n : Nat} (hq : ∀ e ∈ l, e.to ≠ 0 → 0 ≤ e.to / wd ∧ e.to / wd < n) : sumI (ratesE l wd n) = doneE l := by
  have key : ∀ i, i ≤ l.length → sumI (ratesE (l.take i) wd n) = doneE (l.take i) := fun i => by
    induction i with
    | zero => intro _; rw [List.take_zero, rates_none, sum_noughts]; rfl
    | succ i ih =>
      intro hi
      obtain ⟨e, he⟩ := has_elem (show i < l.length by omega)
      have ih := ih (by omega)
      rw [done_next he]
      by_cases h0 : e.to = 0
      · rw [rates_skip he h0, if_neg (fun h => h h0), ih]; omega
      · obtain ⟨q0, q1⟩ := hq e (List.mem_of_getElem? he) h0
        rw [rates_next he h0 (q := (e.to / wd).toNat) (by omega) (by omega), sum_set (by rw [rates_length]; omega), if_pos h0, ih]
        omega
  have := key l.length (Nat.le_refl _)
  rwa [List.take_of_length_le (Nat.le_refl _)] at this
end Go.Proofs.Ytojopmkekimpjaa
