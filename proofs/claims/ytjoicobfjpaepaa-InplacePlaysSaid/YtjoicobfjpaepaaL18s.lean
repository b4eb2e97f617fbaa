/- Layer 18 (inplace): each number is added once, by definition. -/
import Derived.Test.YtjoicobfjpaepaaL18c
namespace Go.Proofs.Ytjoicobfjpaepaa
open Go Go.HX
set_option maxRecDepth 4000
set_option maxHeartbeats 1000000
/-- The value is the sum of all that is done, or of it and what the one who holds has written. -/
structure SumI (xs : List ManM) (c : CelM) (s : Int) : Prop where
  bnd : 0 ≤ s ∧ s ≤ 18446744073709551615
  kind : ∀ (i : Nat) (x : ManM), xs[i]? = some x → (x.k.reads = true ∧ x.k.n = 0) ∨ (x.k.reads = false ∧ x.k.adds = true)
  low : ∀ (i : Nat) (x : ManM), xs[i]? = some x → x.k.holds → x.k.mv ≤ 3
  two : ∀ (i : Nat) (x : ManM), xs[i]? = some x → x.k.holds → x.k.mv = 2 → x.k.l = [(c.l.getD 0 0 + x.k.n) % 18446744073709551616]
  three : ∀ (i : Nat) (x : ManM), xs[i]? = some x → x.k.holds → x.k.mv = 3 → c.l.getD 0 0 = (s + x.k.n) % 18446744073709551616
  rest : (∀ (i : Nat) (x : ManM), xs[i]? = some x → x.k.holds → x.k.mv ≤ 2) → c.l.getD 0 0 = s
def sumN (s : Int) (k : WkM) (v : Int) : Int := if v = 2 ∧ k.done = false then (s + k.n) % 18446744073709551616 else s
/-- How many moves are left, where nobody else moves. -/
def remM (k : WkM) (c : CelM) : Nat := if k.reads = true then (if k.mv = 0 then 3 else 3 - k.mv + (if k.seen = c.count then 0 else 3)) else 4 - k.mv
/-- What comes of an adder's move. -/
theorem add_move {x : ManM} {c : CelM} (hm : Man x c 8) (hr : x.k.reads = false) (ha : x.k.adds = true) (hd : x.k.done = false) (h3 : x.k.mv ≤ 3) :
    (x.k.mv = 0 ∧ c.locked = true ∧ x.k.move c = (3, x.k, c)) ∨ (x.k.mv = 0 ∧ c.locked = false ∧ x.k.move c = (1, { x.k with mv := 1 }, { c with locked := true })) ∨ (x.k.mv = 1 ∧ x.k.move c = (1, { x.k with l := [(c.l.getD 0 0 + x.k.n) % 18446744073709551616], mv := 2 }, c)) ∨ (x.k.mv = 2 ∧ x.k.move c = (1, { x.k with mv := 3 }, { c with l := c.l.set 0 (x.k.l.getD 0 0) })) ∨ (x.k.mv = 3 ∧ x.k.move c = (2, { x.k with done := true }, { c with locked := false, count := (c.count + 1) % 4294967296 })) := by
  have hrd : x.rd = false := by rw [← hm.kr]; exact hr
  have hw := hm.wr hrd
  have h1 := (hw.one ha).1
  have hnd : ¬ x.k.done = true := by rw [hd]; decide
  have hnr : ¬ x.k.reads = true := by rw [hr]; decide
  have hlen : 2 ≤ x.k.mv → x.k.l.length = 1 := fun h2 => by rw [← hw.same (.inr h2), hw.len, h1]
  unfold WkM.move WkM.wr
  rw [if_neg hnd, if_neg hnr]
  rcases (show x.k.mv = 0 ∨ x.k.mv = 1 ∨ x.k.mv = 2 ∨ x.k.mv = 3 by omega) with e | e | e | e
  · rw [if_pos e]
    cases hl : c.locked
    · right; left; exact ⟨e, rfl, by simp⟩
    · left; exact ⟨e, rfl, by simp⟩
  · right; right; left
    rw [if_neg (by omega), if_pos ⟨ha, e⟩]
    exact ⟨e, rfl⟩
  · right; right; right; left
    have hl := hlen (by omega)
    have hat : x.k.at_ = 0 := by unfold WkM.at_; rw [ha, e]; rfl
    rw [if_neg (by omega), if_neg (by omega), hat, if_pos (by omega), e]
    exact ⟨rfl, rfl⟩
  · right; right; right; right
    have hl := hlen (by omega)
    have hat : x.k.at_ = 1 := by unfold WkM.at_; rw [ha, e]; rfl
    rw [if_neg (by omega), if_neg (by omega), hat, if_neg (by omega)]
    exact ⟨e, rfl⟩
/-- A reader's move changes nothing that is summed. -/
theorem read_move {k : WkM} {c : CelM} (hr : k.reads = true) : (k.move c).2.2 = c ∧ ((k.move c).1 = 2 → (k.move c).2.1.done = true) ∧ ((k.move c).2.1.done = true → (k.move c).1 = 2) := by
  unfold WkM.move WkM.rd
  by_cases hd : k.done = true
  · rw [if_pos hd]; exact ⟨rfl, fun _ => hd, fun _ => rfl⟩
  · rw [if_neg hd, if_pos hr]
    repeat' split
    all_goals simp [hd]
theorem move_done {x : ManM} {c : CelM} (hm : Man x c 8) (h : (x.k.reads = true ∧ x.k.n = 0) ∨ (x.k.reads = false ∧ x.k.adds = true)) (h3 : x.k.holds → x.k.mv ≤ 3) : (x.k.move c).1 = 2 ↔ (x.k.move c).2.1.done = true := by
  by_cases hd : x.k.done = true
  · have : x.k.move c = (2, x.k, c) := by unfold WkM.move; rw [if_pos hd]
    rw [this]; exact ⟨fun _ => hd, fun _ => rfl⟩
  · have hd' : x.k.done = false := by simpa using hd
    rcases h with ⟨hr, _⟩ | ⟨hr, ha⟩
    · have := read_move (c := c) hr
      exact ⟨this.2.1, this.2.2⟩
    · have hmv : x.k.mv ≤ 3 := by
        by_cases h0 : x.k.mv = 0
        · omega
        · exact h3 ⟨hr, by omega, hd'⟩
      rcases add_move hm hr ha hd' hmv with ⟨_, _, e⟩ | ⟨_, _, e⟩ | ⟨_, e⟩ | ⟨_, e⟩ | ⟨_, e⟩ <;> rw [e] <;> simp [hd']
theorem sum_move {xs : List ManM} {c : CelM} {s : Int} {i : Nat} {x x' : ManM} (hs : Scn xs c 8) (h : SumI xs c s) (hc : c.l.length = 1) (hx : xs[i]? = some x) (hk : x'.k = (x.k.move c).2.1) : SumI (xs.set i x') (x.k.move c).2.2 (sumN s x.k (x.k.move c).1) := by
  have hm := hs.man i x hx
  have hi : i < xs.length := (List.getElem?_eq_some_iff.1 hx).1
  have hxx : (xs.set i x')[i]? = some x' := by rw [List.getElem?_set]; simp [hi]
  obtain ⟨q1, q2, q3⟩ := move_reads x.k c
  have hkind : ∀ (j : Nat) (y : ManM), (xs.set i x')[j]? = some y → (y.k.reads = true ∧ y.k.n = 0) ∨ (y.k.reads = false ∧ y.k.adds = true) := fun j y hy => by
    by_cases hij : i = j
    · subst hij
      rw [getElem?_set_eq' hy, hk, q1, q2, q3]; exact h.kind i x hx
    · exact h.kind j y (getElem?_set_ne' hij hy)
  have hb := h.bnd
  by_cases hd : x.k.done = true
  · have e : x.k.move c = (2, x.k, c) := by unfold WkM.move; rw [if_pos hd]
    have hs0 : sumN s x.k (x.k.move c).1 = s := by unfold sumN; rw [if_neg (fun hh => by rw [hd] at hh; simp at hh)]
    rw [hs0, e]
    rw [e] at hk
    have hno : ¬ x'.k.holds := fun hh => by have := hh.2.2; rw [hk] at this; simp only at this; rw [hd] at this; simp at this
    have hback : ∀ (j : Nat) (y : ManM), (xs.set i x')[j]? = some y → y.k.holds → xs[j]? = some y := fun j y hy hh => by
      by_cases hij : i = j
      · subst hij; rw [getElem?_set_eq' hy] at hh; exact (hno hh).elim
      · exact getElem?_set_ne' hij hy
    refine ⟨hb, hkind, fun j y hy hh => h.low j y (hback j y hy hh) hh, fun j y hy hh => h.two j y (hback j y hy hh) hh, fun j y hy hh => h.three j y (hback j y hy hh) hh, fun hall => h.rest (fun j y hy hh => ?_)⟩
    by_cases hij : i = j
    · subst hij
      rw [hx] at hy; cases hy
      have := hh.2.2; rw [hd] at this; simp at this
    · exact hall j y (by rw [List.getElem?_set_ne hij]; exact hy) hh
  have hd' : x.k.done = false := by simpa using hd
  rcases h.kind i x hx with ⟨hr, hn0⟩ | ⟨hr, ha⟩
  · -- a reader
    have hrm := (read_move (c := c) hr).1
    rw [hrm]
    have hs0 : sumN s x.k (x.k.move c).1 = s := by unfold sumN; split <;> omega
    rw [hs0]
    have hno : ∀ y : ManM, y.k.reads = true → ¬ y.k.holds := fun y hy hh => by have := hh.1; rw [hy] at this; simp at this
    have hxr : x'.k.reads = true := by rw [hk, q1]; exact hr
    have hback : ∀ (j : Nat) (y : ManM), (xs.set i x')[j]? = some y → y.k.holds → xs[j]? = some y := fun j y hy hh => by
      by_cases hij : i = j
      · subst hij; rw [getElem?_set_eq' hy] at hh; exact (hno x' hxr hh).elim
      · exact getElem?_set_ne' hij hy
    refine ⟨hb, hkind, fun j y hy hh => h.low j y (hback j y hy hh) hh, fun j y hy hh => h.two j y (hback j y hy hh) hh, fun j y hy hh => h.three j y (hback j y hy hh) hh, fun hall => h.rest (fun j y hy hh => ?_)⟩
    by_cases hij : i = j
    · subst hij
      rw [hx] at hy; cases hy
      exact (hno x hr hh).elim
    · exact hall j y (by rw [List.getElem?_set_ne hij]; exact hy) hh
  · have hmv : x.k.mv ≤ 3 := by
      by_cases h0 : x.k.mv = 0
      · omega
      · exact h.low i x hx ⟨hr, by omega, hd'⟩
    have hxh : 1 ≤ x.k.mv → x.k.holds := fun h1 => ⟨hr, h1, hd'⟩
    -- who else holds does so with x
    have only : c.locked = false ∨ x.k.holds → ∀ (j : Nat) (y : ManM), (xs.set i x')[j]? = some y → y.k.holds → y = x' := fun hor j y hy hh => by
      by_cases hij : i = j
      · subst hij; exact getElem?_set_eq' hy
      · have hy := getElem?_set_ne' hij hy
        rcases hor with hl | hxo
        · have := holds_lock (hs.man j y hy) hh; rw [hl] at this; simp at this
        · exact (hij (hs.one i j x y hx hy hxo hh)).elim
    have hrest0 : ∀ m : Nat, m ≤ 2 → x.k.mv = m → (c.locked = false ∨ x.k.holds) → c.l.getD 0 0 = s := fun m hm2 hmm hor => h.rest (fun j y hy hh => by
      by_cases hij : i = j
      · subst hij; rw [hx] at hy; cases hy; omega
      · rcases hor with hl | hxo
        · have := holds_lock (hs.man j y hy) hh; rw [hl] at this; simp at this
        · exact (hij (hs.one i j x y hx hy hxo hh)).elim)
    rcases add_move hm hr ha hd' hmv with ⟨e0, hl, e⟩ | ⟨e0, hl, e⟩ | ⟨e0, e⟩ | ⟨e0, e⟩ | ⟨e0, e⟩
    · rw [e] at hk ⊢
      have hs0 : sumN s x.k 3 = s := by unfold sumN; rw [if_neg (by omega)]
      rw [hs0]
      have hk : x'.k = x.k := hk
      have hset : ∀ (j : Nat) (y : ManM), (xs.set i x')[j]? = some y → ∃ z, xs[j]? = some z ∧ z.k = y.k := fun j y hy => by
        by_cases hij : i = j
        · subst hij; rw [getElem?_set_eq' hy]; exact ⟨x, hx, hk.symm⟩
        · exact ⟨y, getElem?_set_ne' hij hy, rfl⟩
      refine ⟨hb, hkind, fun j y hy hh => ?_, fun j y hy hh => ?_, fun j y hy hh => ?_, fun hall => h.rest (fun j y hy hh => ?_)⟩
      · obtain ⟨z, hz, hzk⟩ := hset j y hy
        rw [← hzk] at hh ⊢; exact h.low j z hz hh
      · obtain ⟨z, hz, hzk⟩ := hset j y hy
        rw [← hzk] at hh ⊢; exact h.two j z hz hh
      · obtain ⟨z, hz, hzk⟩ := hset j y hy
        rw [← hzk] at hh ⊢; exact h.three j z hz hh
      · by_cases hij : i = j
        · subst hij; rw [hx] at hy; cases hy; omega
        · exact hall j y (by rw [List.getElem?_set_ne hij]; exact hy) hh
    · rw [e] at hk ⊢
      have hs0 : sumN s x.k 1 = s := by unfold sumN; rw [if_neg (by omega)]
      rw [hs0]
      have on := only (.inl hl)
      have hv := hrest0 0 (by omega) e0 (.inl hl)
      refine ⟨hb, hkind, fun j y hy hh => ?_, fun j y hy hh hm2 => ?_, fun j y hy hh hm3 => ?_, fun _ => hv⟩
      · rw [on j y hy hh, hk]; simp
      · rw [on j y hy hh, hk] at hm2; simp at hm2
      · rw [on j y hy hh, hk] at hm3; simp at hm3
    · rw [e] at hk ⊢
      have hs0 : sumN s x.k 1 = s := by unfold sumN; rw [if_neg (by omega)]
      rw [hs0]
      have on := only (.inr (hxh (by omega)))
      have hv := hrest0 1 (by omega) e0 (.inr (hxh (by omega)))
      refine ⟨hb, hkind, fun j y hy hh => ?_, fun j y hy hh hm2 => ?_, fun j y hy hh hm3 => ?_, fun _ => hv⟩
      · rw [on j y hy hh, hk]; simp
      · rw [on j y hy hh, hk]
      · rw [on j y hy hh, hk] at hm3; simp at hm3
    · rw [e] at hk ⊢
      have hs0 : sumN s x.k 1 = s := by unfold sumN; rw [if_neg (by omega)]
      rw [hs0]
      have on := only (.inr (hxh (by omega)))
      have hv := hrest0 2 (by omega) e0 (.inr (hxh (by omega)))
      have h2 := h.two i x hx (hxh (by omega)) e0
      have hset : (c.l.set 0 (x.k.l.getD 0 0)).getD 0 0 = (s + x.k.n) % 18446744073709551616 := by
        rw [getD_set, if_pos ⟨rfl, by omega⟩, h2, ← hv]
        rfl
      refine ⟨hb, hkind, fun j y hy hh => ?_, fun j y hy hh hm2 => ?_, fun j y hy hh hm3 => ?_, fun hall => ?_⟩
      · rw [on j y hy hh, hk]; simp
      · rw [on j y hy hh, hk] at hm2; simp at hm2
      · rw [on j y hy hh, hk]; exact hset
      · have := hall i x' hxx (by rw [hk]; exact ⟨hr, by simp, hd'⟩)
        rw [hk] at this; simp at this
    · rw [e] at hk ⊢
      have hs0 : sumN s x.k 2 = (s + x.k.n) % 18446744073709551616 := by unfold sumN; rw [if_pos ⟨rfl, hd'⟩]
      rw [hs0]
      have on := only (.inr (hxh (by omega)))
      have hno : ∀ (j : Nat) (y : ManM), (xs.set i x')[j]? = some y → y.k.holds → False := fun j y hy hh => by
        have := on j y hy hh
        subst this
        have := hh.2.2
        rw [hk] at this; simp at this
      refine ⟨by omega, hkind, fun j y hy hh => (hno j y hy hh).elim, fun j y hy hh => (hno j y hy hh).elim, fun j y hy hh => (hno j y hy hh).elim, fun _ => ?_⟩
      exact h.three i x hx (hxh (by omega)) e0
/-- Who moves alone is done soon. -/
theorem rem_move {x : ManM} {c : CelM} (hm : Man x c 8) (hc : c.l.length = 1) (hk : (x.k.reads = true ∧ x.k.n = 0) ∨ (x.k.reads = false ∧ x.k.adds = true)) (hd : x.k.done = false) (h3 : x.k.holds → x.k.mv ≤ 3) (hr : x.k.holds ∨ c.locked = false) :
    ((x.k.move c).1 = 2 ∧ (x.k.move c).2.1.done = true) ∨ ((x.k.move c).1 ≠ 2 ∧ (x.k.move c).2.1.done = false ∧ remM (x.k.move c).2.1 (x.k.move c).2.2 + 1 ≤ remM x.k c ∧ ((x.k.move c).2.1.holds ∨ (x.k.move c).2.2.locked = false)) := by
  rcases hk with ⟨hrd, _⟩ | ⟨hrd, ha⟩
  · have hx : x.rd = true := by rw [← hm.kr]; exact hrd
    have hR := hm.rd hx
    have hl : c.locked = false := hr.resolve_left (fun hh => by have := hh.1; rw [hrd] at this; simp at this)
    have hlt : ¬ c.locked = true := by rw [hl]; decide
    unfold WkM.move WkM.rd
    rw [if_neg (by rw [hd]; decide), if_pos hrd]
    by_cases h0 : x.k.mv = 0
    · right
      rw [if_pos h0, if_neg hlt]
      refine ⟨by simp, hd, ?_, .inr hl⟩
      unfold remM
      simp only [hrd, if_true, h0]
      simp
    · rw [if_neg h0]
      obtain ⟨_, _, _, hle, _⟩ := hR.st1 hd (by omega)
      by_cases h1 : x.k.mv - 1 < c.l.length
      · right
        rw [if_pos h1]
        refine ⟨by simp, hd, ?_, .inr hl⟩
        unfold remM
        simp only [hrd, if_true]
        rw [if_neg (by omega), if_neg h0]
        split <;> omega
      · rw [if_neg h1]
        by_cases h2 : c.locked = true ∨ c.count ≠ x.k.seen
        · right
          rw [if_pos h2]
          have h2 := h2.resolve_left hlt
          refine ⟨by simp, hd, ?_, .inr hl⟩
          unfold remM
          simp only [hrd, if_true]
          rw [if_neg h0, if_neg (fun e => h2 e.symm)]
          omega
        · left
          rw [if_neg h2]
          exact ⟨rfl, rfl⟩
  · have hmv : x.k.mv ≤ 3 := by
      by_cases h0 : x.k.mv = 0
      · omega
      · exact h3 ⟨hrd, by omega, hd⟩
    have hrf : ¬ x.k.reads = true := by rw [hrd]; decide
    rcases add_move hm hrd ha hd hmv with ⟨e0, hl, e⟩ | ⟨e0, hl, e⟩ | ⟨e0, e⟩ | ⟨e0, e⟩ | ⟨e0, e⟩
    · exfalso
      rcases hr with hh | hf
      · have := hh.2.1; omega
      · rw [hl] at hf; simp at hf
    · right
      rw [e]
      refine ⟨by simp, hd, ?_, .inl ⟨hrd, by simp, hd⟩⟩
      unfold remM; simp only; rw [if_neg hrf, if_neg hrf]; omega
    · right
      rw [e]
      refine ⟨by simp, hd, ?_, .inl ⟨hrd, by simp, hd⟩⟩
      unfold remM; simp only; rw [if_neg hrf, if_neg hrf]; omega
    · right
      rw [e]
      refine ⟨by simp, hd, ?_, .inl ⟨hrd, by simp, hd⟩⟩
      unfold remM; simp only; rw [if_neg hrf, if_neg hrf]; omega
    · left
      rw [e]
      exact ⟨rfl, rfl⟩
theorem rem_le (k : WkM) (c : CelM) : remM k c ≤ 6 := by
  unfold remM
  repeat' split
  all_goals omega
/-- A writer of the program holds just if the document's does. -/
theorem holds_st {y : WrM} {l : List Int} {k : WkM} {c : CelM} {n : Nat} (h : IsWr y l k c n) : (0 < y.st ∧ y.st < 4) ↔ k.holds := by
  unfold WkM.holds
  constructor
  · rintro ⟨h1, h2⟩
    have hd : k.done = false := by
      by_cases hd : k.done = true
      · have := h.stD hd; omega
      · simpa using hd
    refine ⟨h.rds, ?_, hd⟩
    by_cases h0 : k.mv = 0
    · have := (h.st0 hd h0).1; omega
    · omega
  · rintro ⟨_, h1, hd⟩
    by_cases ha : k.adds = true ∧ k.mv = 1
    · have := (h.st1 hd ha.2 ha.1).1; omega
    · have hs : k.adds = false ∨ 2 ≤ k.mv := by
        by_cases hb : k.adds = true
        · right
          have : ¬ k.mv = 1 := fun e => ha ⟨hb, e⟩
          omega
        · left; simpa using hb
      have := (h.st2 hd h1 hs).2.2
      rw [this]
      split <;> omega
end Go.Proofs.Ytjoicobfjpaepaa
