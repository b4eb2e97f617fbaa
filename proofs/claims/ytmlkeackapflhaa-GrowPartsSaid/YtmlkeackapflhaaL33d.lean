/- Layer 33 (grow): all that is put. -/
import Derived.Test.YtmlkeackapflhaaP33b
namespace Go.Proofs.Ytmlkeackapflhaa
open Go Go.HX
set_option maxRecDepth 4000
set_option maxHeartbeats 1000000
abbrev Puts := List (Nat × EntM)
def toB (b : Nat) (l : List EntM) : List (Nat × EntM) := l.map (fun e => (b, e))
def putsB (x : IdxM) (b : Nat) : List (Nat × EntM) := toB b (x.old b) ++ toB (b + x.nb) (x.old b)
def puts (x : IdxM) (k : Nat) : List (Nat × EntM) := (List.range k).flatMap (putsB x)
def needX (x : IdxM) : Nat → Nat
  | 0 => 0
  | k + 1 => needX x k + 2 * (((x.old k).length - 1) / 7)
theorem puts_succ (x : IdxM) (k : Nat) : puts x (k + 1) = puts x k ++ toB k (x.old k) ++ toB (k + x.nb) (x.old k) := by
  unfold puts putsB
  rw [List.range_succ, List.flatMap_append, List.append_assoc]
  simp
theorem mem_toB {b : Nat} {l : List EntM} {p : Nat × EntM} : p ∈ toB b l ↔ p.1 = b ∧ p.2 ∈ l := by
  unfold toB
  rw [List.mem_map]
  constructor
  · rintro ⟨e, he, rfl⟩
    exact ⟨rfl, he⟩
  · rintro ⟨h1, h2⟩
    exact ⟨p.2, h2, by rw [← h1]⟩
theorem mem_puts {x : IdxM} {k : Nat} {p : Nat × EntM} : p ∈ puts x k ↔ ∃ b, b < k ∧ (p.1 = b ∨ p.1 = b + x.nb) ∧ p.2 ∈ x.old b := by
  unfold puts putsB
  simp only [List.mem_flatMap, List.mem_range, List.mem_append, mem_toB]
  constructor
  · rintro ⟨b, hb, ⟨h1, h2⟩ | ⟨h1, h2⟩⟩
    · exact ⟨b, hb, .inl h1, h2⟩
    · exact ⟨b, hb, .inr h1, h2⟩
  · rintro ⟨b, hb, h1 | h1, h2⟩
    · exact ⟨b, hb, .inl ⟨h1, h2⟩⟩
    · exact ⟨b, hb, .inr ⟨h1, h2⟩⟩
theorem puts_prefix (x : IdxM) {k : Nat} : ∀ {n : Nat}, k ≤ n → ∃ R, puts x n = puts x k ++ R
  | 0, h => ⟨[], by obtain rfl : k = 0 := by omega
                    simp⟩
  | n + 1, h => by
    by_cases hk : k = n + 1
    · exact ⟨[], by rw [hk]; simp⟩
    · obtain ⟨R, hR⟩ := puts_prefix x (show k ≤ n by omega)
      exact ⟨R ++ toB n (x.old n) ++ toB (n + x.nb) (x.old n), by rw [puts_succ, hR]; simp⟩
theorem toB_take {b : Nat} {l : List EntM} {k : Nat} {e : EntM} (he : l[k]? = some e) : toB b (l.take k) ++ [(b, e)] = toB b (l.take (k + 1)) ∧ ∃ R, toB b l = toB b (l.take (k + 1)) ++ R := by
  refine ⟨by rw [take_next he]; unfold toB; simp, toB b (l.drop (k + 1)), ?_⟩
  unfold toB
  rw [← List.map_append, List.take_append_drop]
theorem cntD_append (D R : List (Nat × EntM)) (b : Nat) : cntD (D ++ R) b = cntD D b + cntD R b := by
  unfold cntD
  rw [List.filter_append, List.length_append]
theorem cntD_toB (b b' : Nat) (l : List EntM) : cntD (toB b l) b' = if b' = b then l.length else 0 := by
  unfold cntD toB
  rw [List.filter_map, List.length_map]
  by_cases hb : b' = b
  · subst hb
    rw [if_pos rfl, List.filter_eq_self.2 (fun e _ => by simp)]
  · rw [if_neg hb, List.filter_eq_nil_iff.2 (fun e _ => by simpa using fun h => hb h.symm)]
    rfl
theorem cntD_puts (x : IdxM) (b' : Nat) : ∀ k : Nat, k ≤ x.nb → cntD (puts x k) b' = if b' < k then (x.old b').length else if x.nb ≤ b' ∧ b' < x.nb + k then (x.old (b' - x.nb)).length else 0
  | 0, _ => by
    rw [if_neg (by omega), if_neg (by omega)]
    rfl
  | k + 1, hk => by
    rw [puts_succ, cntD_append, cntD_append, cntD_toB, cntD_toB, cntD_puts x b' k (by omega)]
    by_cases h1 : b' < k
    · rw [if_pos h1, if_neg (by omega), if_neg (by omega), if_pos (by omega)]
      omega
    · by_cases h2 : b' = k
      · subst h2
        rw [if_neg h1, if_neg (by omega), if_pos rfl, if_neg (by omega), if_pos (by omega)]
        omega
      · by_cases h3 : b' = k + x.nb
        · rw [if_neg h1, if_neg (by omega), if_neg h2, if_pos h3, if_neg (by omega), if_pos (by omega), h3, Nat.add_sub_cancel]
          omega
        · by_cases h4 : x.nb ≤ b' ∧ b' < x.nb + k
          · rw [if_neg h1, if_pos h4, if_neg h2, if_neg h3, if_neg (by omega), if_pos (by omega)]
            omega
          · rw [if_neg h1, if_neg h4, if_neg h2, if_neg h3, if_neg (by omega), if_neg (by omega)]
theorem sum_twice (f : Nat → Nat) (n : Nat) : ∀ k : Nat, ((List.range (n + k)).map f).sum = ((List.range n).map f).sum + ((List.range k).map (fun i => f (n + i))).sum
  | 0 => by simp
  | k + 1 => by
    rw [← Nat.add_assoc, List.range_succ, List.map_append, List.sum_append, sum_twice f n k, List.range_succ, List.map_append, List.sum_append]
    simp
    omega
theorem needX_sum (x : IdxM) : ∀ k : Nat, needX x k = 2 * ((List.range k).map (fun b => ((x.old b).length - 1) / 7)).sum
  | 0 => by simp [needX]
  | k + 1 => by
    rw [needX, needX_sum x k, List.range_succ, List.map_append, List.sum_append]
    simp
    omega
theorem needD_puts (x : IdxM) : needD (2 * x.nb) (puts x x.nb) = needX x x.nb := by
  unfold needD
  rw [show 2 * x.nb = x.nb + x.nb by omega, sum_twice, needX_sum]
  have e1 : (List.range x.nb).map (fun b => (cntD (puts x x.nb) b - 1) / 7) = (List.range x.nb).map (fun b => ((x.old b).length - 1) / 7) := List.map_congr_left (fun b hb => by
    have := List.mem_range.1 hb
    rw [cntD_puts x b x.nb (Nat.le_refl _), if_pos this])
  have e2 : (List.range x.nb).map (fun i => (cntD (puts x x.nb) (x.nb + i) - 1) / 7) = (List.range x.nb).map (fun b => ((x.old b).length - 1) / 7) := List.map_congr_left (fun b hb => by
    have := List.mem_range.1 hb
    rw [cntD_puts x (x.nb + b) x.nb (Nat.le_refl _), if_neg (by omega), if_pos (by omega), Nat.add_sub_cancel_left])
  rw [e1, e2]
  omega
theorem cnt_le (z : IdxM) (E : List Nat) : cntW z E ≤ E.length * 7 := by
  unfold cntW
  rw [← slotsG_length]
  exact List.length_filter_le _ _
section
variable {x : IdxM} {Cs : List (List Nat)}
theorem need_le (h : Forest x Cs) : needX x x.nb ≤ 2 * x.taken := by
  have h1 := lens_sum h
  rw [map_range_get (g := fun b => 1 + (Cs.getD b []).length - 1) h.ch.len (fun b C hC => by rw [List.getD_eq_getElem?_getD, hC]; simp)] at h1
  have h2 : (List.range x.nb).map (fun b => 1 + (Cs.getD b []).length - 1) = (List.range x.nb).map (fun b => 1 + ((Cs.getD b []).length - 1)) := List.map_congr_left (fun b hb => by
    obtain ⟨C, hC⟩ := h.ch.get (List.mem_range.1 hb)
    have := h.ch.ne hC
    rw [List.getD_eq_getElem?_getD, hC]
    have : C.length ≠ 0 := fun e => this (List.length_eq_zero_iff.1 e)
    simp
    omega)
  rw [h2, sum_one] at h1
  have h3 : ((List.range x.nb).map (fun b => ((x.old b).length - 1) / 7)).sum ≤ ((List.range x.nb).map (fun b => (Cs.getD b []).length - 1)).sum := by
    have : ∀ n, n ≤ x.nb → ((List.range n).map (fun b => ((x.old b).length - 1) / 7)).sum ≤ ((List.range n).map (fun b => (Cs.getD b []).length - 1)).sum := by
      intro n
      induction n with
      | zero => intro _; simp
      | succ n ih =>
        intro hn
        have := ih (by omega)
        obtain ⟨C, hC⟩ := h.ch.get (show n < x.nb by omega)
        have h4 := cnt_le x C
        have h5 := oldL_le (x.entries n)
        rw [entries_cnt h hC] at h5
        have h6 : (x.old n).length = (oldL (x.entries n)).length := rfl
        rw [List.range_succ, List.map_append, List.map_append, List.sum_append, List.sum_append]
        have h7 : Cs.getD n [] = C := by rw [List.getD_eq_getElem?_getD, hC]; rfl
        simp only [List.map_cons, List.map_nil, List.sum_cons, List.sum_nil]
        rw [h7]
        omega
    exact this x.nb (Nat.le_refl _)
  rw [needX_sum]
  omega
/-- What a look for a number tells of lists that are put. -/
theorem toldD_some {n : Nat} {D : List (Nat × EntM)} {g a : Int} (h : ∃ p ∈ D, bucketZ g n = (p.1 : Int) ∧ tagZ g = p.2.tag) (hall : ∀ p ∈ D, bucketZ g n = (p.1 : Int) → tagZ g = p.2.tag → p.2.addr = a) : toldD n D g = some a := by
  have : ∀ (D : List (Nat × EntM)) (o : Option Int), (o = some a ∨ ∃ p ∈ D, bucketZ g n = (p.1 : Int) ∧ tagZ g = p.2.tag) → (∀ p ∈ D, bucketZ g n = (p.1 : Int) → tagZ g = p.2.tag → p.2.addr = a) → D.foldl (fun o p => if bucketZ g n = (p.1 : Int) ∧ tagZ g = p.2.tag then some p.2.addr else o) o = some a := by
    intro D
    induction D with
    | nil =>
      intro o ho _
      rcases ho with ho | ⟨p, hp, _⟩
      · exact ho
      · cases hp
    | cons q D ih =>
      intro o ho hall
      rw [List.foldl_cons]
      refine ih _ ?_ (fun p hp => hall p (List.mem_cons_of_mem _ hp))
      by_cases hq : bucketZ g n = (q.1 : Int) ∧ tagZ g = q.2.tag
      · rw [if_pos hq, hall q (by simp) hq.1 hq.2]
        exact .inl rfl
      · rw [if_neg hq]
        rcases ho with ho | ⟨p, hp, hm⟩
        · exact .inl ho
        · rcases List.mem_cons.1 hp with rfl | hp
          · exact absurd hm hq
          · exact .inr ⟨p, hp, hm⟩
  exact this D none (.inr h) hall
theorem toldD_none {n : Nat} {D : List (Nat × EntM)} {g : Int} (h : ∀ p ∈ D, ¬ (bucketZ g n = (p.1 : Int) ∧ tagZ g = p.2.tag)) : toldD n D g = none := by
  unfold toldD
  induction D with
  | nil => rfl
  | cons p D ih =>
    rw [List.foldl_cons, if_neg (h p (by simp))]
    exact ih (fun q hq => h q (List.mem_cons_of_mem _ hq))
theorem mayN_twice {n : Nat} (h : mayN n) (h5 : n ≤ 512) : mayN (2 * n : Nat) := by unfold mayN at *; omega
theorem bucket_twice {n : Nat} {g : Int} (hn : mayN n) (h5 : n ≤ 512) : bucketZ g (2 * n : Nat) = bucketZ g n ∨ bucketZ g (2 * n : Nat) = bucketZ g n + n := by
  rw [bucketZ, if_pos (mayN_twice hn h5), bucketZ, if_pos hn]
  have : ((2 * n : Nat) : Int) = 2 * n := by omega
  rw [this]
  rcases hn with e | e | e | e | e | e | e | e | e | e | e <;> rw [e] <;> omega
/-- EACH KEY IS FOUND AS IT WAS. -/
theorem addr_puts (h : Forest x Cs) (h5 : x.nb ≤ 512) (g : Int) : (toldD (2 * x.nb) (puts x x.nb) g).getD 0 = addrV x g := by
  have hbk := bucket_lt (h := g) h.may
  obtain ⟨b, hb⟩ := Int.eq_ofNat_of_zero_le hbk.1
  have hbn : b < x.nb := by omega
  obtain ⟨C, hC⟩ := h.ch.get hbn
  have ht := bucket_twice (g := g) h.may h5
  have hin : ∀ p ∈ puts x x.nb, bucketZ g (2 * x.nb : Nat) = (p.1 : Int) → tagZ g = p.2.tag → ∃ s ∈ slotsG C, x.wd s ≠ 0 ∧ (unpackE (x.wd s)).1 = p.2 ∧ p.2.fresh = false := fun p hp h1 h2 => by
    obtain ⟨b', hb', hp1, hp2⟩ := mem_puts.1 hp
    obtain rfl : b' = b := by omega
    obtain ⟨w, hw, he, hf⟩ := oldL_mem hp2
    unfold IdxM.entries IdxM.words at hw
    rw [h.chain hC] at hw
    obtain ⟨h3, h4⟩ := List.mem_filter.1 hw
    obtain ⟨s, hs, rfl⟩ := List.mem_map.1 h3
    exact ⟨s, hs, of_decide_eq_true h4, he.symm, hf⟩
  unfold addrV
  by_cases hx : ∃ s ∈ slotsG C, x.wd s ≠ 0 ∧ (unpackE (x.wd s)).1.tag = tagZ g
  · obtain ⟨s, hs, hw, htg⟩ := hx
    rw [(addr_at h hb.symm hC hs hw htg).1]
    cases hf : (unpackE (x.wd s)).1.fresh with
    | false =>
      rw [toldD_some (a := (unpackE (x.wd s)).1.addr) ?_ (fun p hp h1 h2 => ?_)]
      · have hm : (unpackE (x.wd s)).1 ∈ x.old b := by
          unfold IdxM.old oldL
          refine List.mem_filter.2 ⟨List.mem_map.2 ⟨x.wd s, ?_, rfl⟩, by simp [hf]⟩
          unfold IdxM.entries IdxM.words
          rw [h.chain hC]
          exact List.mem_filter.2 ⟨List.mem_map.2 ⟨s, hs, rfl⟩, decide_eq_true hw⟩
        rcases ht with ht | ht
        · exact ⟨(b, (unpackE (x.wd s)).1), mem_puts.2 ⟨b, hbn, .inl rfl, hm⟩, by simp only; omega, htg.symm⟩
        · exact ⟨(b + x.nb, (unpackE (x.wd s)).1), mem_puts.2 ⟨b, hbn, .inr rfl, hm⟩, by simp only; omega, htg.symm⟩
      · obtain ⟨s', hs', hw', he, _⟩ := hin p hp h1 h2
        rw [← he, h.uniq b C hC s' hs' s hs hw' hw (by rw [he, htg, h2])]
    | true =>
      have ha : (unpackE (x.wd s)).1.addr = 0 := by
        rcases h.ent s (mem_slots.1 hs).1 with h1 | h1
        · exact absurd h1 hw
        · unfold unpackE at h1 hf ⊢
          rw [if_neg hw] at h1 hf ⊢
          split at h1
          · cases h1
          · rename_i hn
            rw [if_neg hn] at hf ⊢
            have hok : entOk (entOf (x.wd s)) := Classical.byContradiction (fun hx => hn (.inr hx))
            exact hok.2.2.1 hf
      rw [toldD_none (fun p hp hm => ?_), ha]
      · rfl
      · obtain ⟨s', hs', hw', he, hf'⟩ := hin p hp hm.1 hm.2
        have := h.uniq b C hC s' hs' s hs hw' hw (by rw [he, htg, hm.2])
        subst this
        rw [he] at hf
        rw [hf] at hf'
        cases hf'
  · rw [addr_no h hb.symm hC (fun s hs hw htg => hx ⟨s, hs, hw, htg⟩), toldD_none (fun p hp hm => ?_)]
    obtain ⟨s, hs, hw, he, _⟩ := hin p hp hm.1 hm.2
    exact hx ⟨s, hs, hw, by rw [he, hm.2]⟩
end
end Go.Proofs.Ytmlkeackapflhaa
