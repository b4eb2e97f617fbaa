/- Layer 17 (index): fresh entries go; the chains are laid anew. -/
import Derived.Test.YtmlkeackapflhaaL17f
namespace Go.Proofs.Ytmlkeackapflhaa
open Go Go.HX
set_option maxRecDepth 4000
set_option maxHeartbeats 1000000
/-- The words of buckets. -/
def wordsC (ws : List Int) (C : List Nat) : List Int := (slotsG C).map (fun s => ws.getD s 0)
theorem wordsC_length (ws : List Int) (C : List Nat) : (wordsC ws C).length = C.length * 7 := by unfold wordsC; rw [List.length_map, slotsG_length]
theorem slotsG_append (C D : List Nat) : slotsG (C ++ D) = slotsG C ++ slotsG D := by unfold slotsG; rw [List.flatMap_append]
/-- How many spare buckets so many words take. -/
theorem layR_count {nb : Nat} : ∀ {r : List Int} {st : List Int × Nat × Nat} {i : Nat}, (layR nb st i r).2.1 + (i - 1) / 7 = st.2.1 + (i + r.length - 1) / 7
  | [], st, i => by simp [layR]
  | w :: r, st, i => by
    have ih := layR_count (nb := nb) (r := r) (st := putW nb st i w) (i := i + 1)
    have hp : (putW nb st i w).2.1 = st.2.1 + if i ≠ 0 ∧ i % 7 = 0 then 1 else 0 := by
      unfold putW
      split <;> simp
    simp only [layR, List.length_cons]
    rw [hp] at ih
    by_cases hc : i ≠ 0 ∧ i % 7 = 0
    · rw [if_pos hc] at ih
      omega
    · rw [if_neg hc] at ih
      omega
theorem layAll_count {nb : Nat} : ∀ {rs : List (List Int)} {st : List Int × Nat} {b : Nat}, (layAll nb st b rs).2 = st.2 + (rs.map (fun r => (r.length - 1) / 7)).sum
  | [], st, b => by simp [layAll]
  | r :: rs, st, b => by
    have h1 := layR_count (nb := nb) (r := r) (st := (st.1, st.2, b)) (i := 0)
    simp only [layAll, List.map_cons, List.sum_cons]
    rw [layAll_count]
    simp at h1 ⊢
    omega
theorem sum_le : ∀ {l m : List Nat}, l.length = m.length → (∀ (i a b : Nat), l[i]? = some a → m[i]? = some b → a ≤ b) → l.sum ≤ m.sum
  | [], [], _, _ => by simp
  | [], _ :: _, h, _ => by simp at h
  | _ :: _, [], h, _ => by simp at h
  | a :: l, b :: m, h, hx => by
    have h1 := hx 0 a b rfl rfl
    have h2 := sum_le (l := l) (m := m) (by simpa using h) (fun i a b ha hb => hx (i + 1) a b (by simpa using ha) (by simpa using hb))
    simp
    omega
theorem flat_len : ∀ {Cs : List (List Nat)}, (∀ C ∈ Cs, C ≠ []) → Cs.flatten.length = (Cs.map (fun C => C.length - 1)).sum + Cs.length
  | [], _ => rfl
  | C :: Cs, h => by
    have h1 := flat_len (Cs := Cs) (fun D hD => h D (List.mem_cons_of_mem _ hD))
    have h2 : C.length ≠ 0 := fun e => h C (by simp) (List.length_eq_zero_iff.1 e)
    simp [h1]
    omega
theorem rest_len {x : IdxM} {Cs : List (List Nat)} (h : Forest x Cs) {b : Nat} {C : List Nat} (hC : Cs[b]? = some C) : (x.rest b).length ≤ C.length * 7 := by
  unfold IdxM.rest
  have h1 := List.length_filter_le keepW (x.words b)
  have h2 : (x.words b).length = C.length * 7 := by unfold IdxM.words; rw [List.length_map, slotsG_length, h.chain hC]
  omega
/-- There is room. -/
theorem laid_cap {x : IdxM} {Cs : List (List Nat)} (h : Forest x Cs) : x.laid.2 ≤ x.taken ∧ x.laid.2 ≤ x.sp := by
  have h1 : x.laid.2 = (x.rests.map (fun r => (r.length - 1) / 7)).sum := by
    unfold IdxM.laid
    rw [layAll_count]
    simp
  have h2 : (x.rests.map (fun r => (r.length - 1) / 7)).sum ≤ (Cs.map (fun C => C.length - 1)).sum := by
    refine sum_le (by unfold IdxM.rests; simp [h.ch.len]) (fun i a c ha hc => ?_)
    rw [List.getElem?_map] at ha hc
    cases hCi : Cs[i]? with
    | none => rw [hCi] at hc; cases hc
    | some C =>
      rw [hCi] at hc
      simp only [Option.map_some, Option.some.injEq] at hc
      have hi : i < x.nb := by rw [← h.ch.len]; exact (List.getElem?_eq_some_iff.1 hCi).1
      have hr : x.rests[i]? = some (x.rest i) := by
        unfold IdxM.rests
        rw [List.getElem?_map, List.getElem?_range hi]
        rfl
      rw [hr] at ha
      simp only [Option.map_some, Option.some.injEq] at ha
      have h3 := rest_len h hCi
      have h4 : C.length ≠ 0 := fun e => h.ch.ne hCi (List.length_eq_zero_iff.1 e)
      omega
  have h3 := flat_len (Cs := Cs) (fun C hC => by
    obtain ⟨b, hb⟩ := List.getElem?_of_mem hC
    exact h.ch.ne hb)
  have h4 := nodup_le _ Cs.flatten h.ch.nd (fun c hc => (h.ch.cov c).1 hc)
  have h5 := h.ch.len
  have h6 := h.ch.cap
  omega
/-- Chains, and what they have: words, then nothing. -/
structure Lay (nb sp : Nat) (ws : List Int) (tk : Nat) (Cs : List (List Nat)) (R : List (List Int)) : Prop where
  ch : Chains nb sp ws tk Cs
  rl : R.length = nb
  con : ∀ (r : Nat) (C : List Nat) (l : List Int), Cs[r]? = some C → R[r]? = some l → wordsC ws C = l ++ List.replicate (C.length * 7 - l.length) 0 ∧ l.length ≤ C.length * 7 ∧ (C.length - 1) * 7 ≤ l.length ∧ (C.length ≠ 1 → (C.length - 1) * 7 < l.length)
theorem slots_at {C : List Nat} (hne : C ≠ []) {k : Nat} (hk : k < 7) : (slotsG C)[(C.length - 1) * 7 + k]? = some (C.getLast hne * 8 + k) := by
  refine slots_get ?_ hk
  rw [← List.getLast?_eq_getElem?, List.getLast?_eq_some_getLast hne]
theorem wordsC_congr {ws ws' : List Int} {C : List Nat} (h : ∀ s ∈ slotsG C, ws'.getD s 0 = ws.getD s 0) : wordsC ws' C = wordsC ws C := List.map_congr_left h
theorem wordsC_set {ws : List Int} {C : List Nat} (hd : C.Nodup) {i s : Nat} (hs : (slotsG C)[i]? = some s) (hl : s < ws.length) (v : Int) : wordsC (ws.set s v) C = (wordsC ws C).set i v := by
  have hnd : (slotsG C).Nodup := by
    unfold slotsG
    refine List.pairwise_flatMap.2 ⟨fun b _ => ?_, ?_⟩
    · rw [List.pairwise_map]
      exact (List.nodup_range (n := 7)).imp (fun h e => h (by omega))
    · refine hd.imp (fun {a b} hab => ?_)
      intro u hu w hw e
      simp only [List.mem_map, List.mem_range] at hu hw
      obtain ⟨k1, hk1, rfl⟩ := hu
      obtain ⟨k2, hk2, rfl⟩ := hw
      exact hab (by omega)
  apply List.ext_getElem?
  intro j
  unfold wordsC
  rw [List.getElem?_map, List.getElem?_set]
  cases hj : (slotsG C)[j]? with
  | none =>
    by_cases e : i = j
    · subst e; rw [hs] at hj; cases hj
    · rw [if_neg e, List.getElem?_map, hj]
      rfl
  | some t =>
    have hil : i < (slotsG C).length := (List.getElem?_eq_some_iff.1 hs).1
    by_cases e : i = j
    · subst e
      rw [hs] at hj
      cases hj
      rw [if_pos rfl, if_pos (by rw [List.length_map]; exact hil)]
      simp only [Option.map_some]
      rw [getD_set hl, if_pos rfl]
    · rw [if_neg e, List.getElem?_map, hj]
      simp only [Option.map_some]
      rw [getD_set hl, if_neg]
      rintro rfl
      obtain ⟨h1, h2⟩ := List.getElem?_eq_some_iff.1 hs
      obtain ⟨h3, h4⟩ := List.getElem?_eq_some_iff.1 hj
      rw [List.Nodup, List.pairwise_iff_getElem] at hnd
      rcases Nat.lt_or_gt_of_ne e with hlt | hlt
      · exact hnd i j h1 h3 hlt (h2.trans h4.symm)
      · exact hnd j i h3 h1 hlt (h4.trans h2.symm)
/-- A word more in a chain. -/
theorem Lay.step {nb sp tk at_ : Nat} {ws : List Int} {Cs : List (List Nat)} {R : List (List Int)} (h : Lay nb sp ws tk Cs R) (hs : nb + sp ≤ 2000) {r : Nat} {C : List Nat} {l : List Int} (hC : Cs[r]? = some C) (hl : R[r]? = some l) (hat : C.getLast? = some at_) {w : Int} (w0 : 0 ≤ w) (w1 : w ≤ 18446744073709551615)
    (hcap : (putW nb (ws, tk, at_) l.length w).2.1 ≤ sp) : ∃ C', Lay nb sp (putW nb (ws, tk, at_) l.length w).1 (putW nb (ws, tk, at_) l.length w).2.1 (Cs.set r C') (R.set r (l ++ [w])) ∧ C'.getLast? = some (putW nb (ws, tk, at_) l.length w).2.2 := by
  have hne := h.ch.ne hC
  rw [List.getLast?_eq_some_getLast hne] at hat
  simp only [Option.some.injEq] at hat
  obtain ⟨c1, c2, c3, c4⟩ := h.con r C l hC hl
  have hcl : C.length ≠ 0 := fun e => hne (List.length_eq_zero_iff.1 e)
  have hrl : r < Cs.length := (List.getElem?_eq_some_iff.1 hC).1
  have hrR : r < R.length := (List.getElem?_eq_some_iff.1 hl).1
  have hlt := h.ch.lt hC (List.getLast_mem hne)
  rw [hat] at hlt
  have hcp := h.ch.cap
  have hwl := h.ch.wl
  have hdis : ∀ (r' : Nat) (C' : List Nat), r ≠ r' → Cs[r']? = some C' → ∀ s ∈ slotsG C', s / 8 ∉ C := fun r' C' hr hC' s hs hc => apart_parts h.ch.nd hC hC' hr hc (mem_slots.1 hs).2
  by_cases hc7 : l.length ≠ 0 ∧ l.length % 7 = 0
  · have hpe : putW nb (ws, tk, at_) l.length w = ((ws.set (at_ * 8 + 7) ((nb + tk : Nat) + 1 : Int)).set ((nb + tk) * 8 + l.length % 7) w, tk + 1, nb + tk) := by rw [putW, if_pos hc7]
    rw [hpe] at hcap ⊢
    simp only at hcap ⊢
    have hfull : l.length = C.length * 7 := by
      by_cases h1 : C.length = 1
      · rw [h1] at c2 ⊢; omega
      · have := c4 h1; omega
    have hm := h.ch.more hC hne hs (by omega)
    rw [hat] at hm
    have hm2 := hm.put (s := (nb + tk) * 8 + l.length % 7) (v := w) (by omega) (by omega) w0 w1
    have hws1 : ∀ s, s % 8 < 7 → (ws.set (at_ * 8 + 7) ((nb + tk : Nat) + 1 : Int)).getD s 0 = ws.getD s 0 := fun s hs => by rw [getD_set (by omega), if_neg (by omega)]
    have hl1 : (ws.set (at_ * 8 + 7) ((nb + tk : Nat) + 1 : Int)).length = ws.length := List.length_set
    refine ⟨C ++ [nb + tk], ⟨hm2, by rw [List.length_set]; exact h.rl, fun r' C' l' hC' hl' => ?_⟩, by simp⟩
    by_cases hr : r = r'
    · subst hr
      rw [List.getElem?_set_self hrl] at hC'
      rw [List.getElem?_set_self hrR] at hl'
      cases hC'
      cases hl'
      have e1 : wordsC ((ws.set (at_ * 8 + 7) ((nb + tk : Nat) + 1 : Int)).set ((nb + tk) * 8 + l.length % 7) w) (C ++ [nb + tk]) = wordsC ws C ++ [w, 0, 0, 0, 0, 0, 0] := by
        unfold wordsC
        rw [slotsG_append, List.map_append]
        congr 1
        · refine List.map_congr_left (fun s hs => ?_)
          obtain ⟨s1, s2⟩ := mem_slots.1 hs
          have := h.ch.lt hC s2
          rw [getD_set (by rw [hl1]; omega), if_neg (by omega), hws1 s s1]
        · have hz : ∀ i, (nb + tk) * 8 ≤ i → ws.getD i 0 = 0 := h.ch.zero
          have hv : ∀ k, k < 7 → ((ws.set (at_ * 8 + 7) ((nb + tk : Nat) + 1 : Int)).set ((nb + tk) * 8 + l.length % 7) w).getD ((nb + tk) * 8 + k) 0 = if k = 0 then w else 0 := fun k hk => by
            rw [getD_set (by rw [hl1]; omega)]
            by_cases hk0 : k = 0
            · rw [if_pos (by omega), if_pos hk0]
            · rw [if_neg (by omega), if_neg hk0, hws1 _ (by omega), hz _ (by omega)]
          have : slotsG [nb + tk] = [(nb + tk) * 8 + 0, (nb + tk) * 8 + 1, (nb + tk) * 8 + 2, (nb + tk) * 8 + 3, (nb + tk) * 8 + 4, (nb + tk) * 8 + 5, (nb + tk) * 8 + 6] := rfl
          rw [this]
          simp only [List.map_cons, List.map_nil]
          rw [hv 0 (by decide), hv 1 (by decide), hv 2 (by decide), hv 3 (by decide), hv 4 (by decide), hv 5 (by decide), hv 6 (by decide)]
          rfl
      rw [e1, c1]
      simp only [List.length_append, List.length_cons, List.length_nil]
      refine ⟨?_, by omega, by omega, by omega⟩
      rw [hfull, Nat.sub_self, show (C.length + (0 + 1)) * 7 - (C.length * 7 + (0 + 1)) = 6 by omega]
      simp [List.replicate]
    · rw [List.getElem?_set_ne hr] at hC' hl'
      have e1 : wordsC ((ws.set (at_ * 8 + 7) ((nb + tk : Nat) + 1 : Int)).set ((nb + tk) * 8 + l.length % 7) w) C' = wordsC ws C' := wordsC_congr (fun s hs => by
        obtain ⟨s1, s2⟩ := mem_slots.1 hs
        have := h.ch.lt hC' s2
        rw [getD_set (by rw [hl1]; omega), if_neg (by omega), hws1 s s1])
      rw [e1]
      exact h.con r' C' l' hC' hl'
  · have hpe : putW nb (ws, tk, at_) l.length w = (ws.set (at_ * 8 + l.length % 7) w, tk, at_) := by rw [putW, if_neg hc7]
    rw [hpe] at hcap ⊢
    simp only at hcap ⊢
    have hlast : l.length = (C.length - 1) * 7 + l.length % 7 := by
      by_cases h0 : l.length = 0
      · rw [h0] at c3 ⊢; omega
      · have hm : l.length % 7 ≠ 0 := fun e => hc7 ⟨h0, e⟩
        omega
    have hm := h.ch.put (s := at_ * 8 + l.length % 7) (v := w) (by omega) (by omega) w0 w1
    have hsl : at_ * 8 + l.length % 7 < ws.length := by omega
    refine ⟨C, ⟨by rw [set_same hC]; exact hm, by rw [List.length_set]; exact h.rl, fun r' C' l' hC' hl' => ?_⟩, by rw [List.getLast?_eq_some_getLast hne, hat]⟩
    rw [set_same hC] at hC'
    by_cases hr : r = r'
    · subst hr
      rw [List.getElem?_set_self hrR] at hl'
      rw [hC] at hC'
      cases hC'
      cases hl'
      have hat2 := slots_at hne (k := l.length % 7) (Nat.mod_lt _ (by decide))
      rw [hat, ← hlast] at hat2
      rw [wordsC_set (nodup_part h.ch.nd hC) hat2 hsl, c1]
      have hlc : l.length < C.length * 7 := by omega
      simp only [List.length_append, List.length_cons, List.length_nil]
      refine ⟨?_, by omega, by omega, fun _ => by omega⟩
      rw [List.set_append_right _ _ (Nat.le_refl _), Nat.sub_self, show C.length * 7 - l.length = (C.length * 7 - (l.length + (0 + 1))) + 1 by omega, List.replicate_succ, List.set_cons_zero]
      simp
    · rw [List.getElem?_set_ne hr] at hl'
      have e1 : wordsC (ws.set (at_ * 8 + l.length % 7) w) C' = wordsC ws C' := wordsC_congr (fun s hs => by
        rw [getD_set hsl, if_neg]
        rintro rfl
        refine hdis r' C' hr hC' _ hs ?_
        rw [show (at_ * 8 + l.length % 7) / 8 = at_ by omega, ← hat]
        exact List.getLast_mem hne)
      rw [e1]
      exact h.con r' C' l' hC' hl'
end Go.Proofs.Ytmlkeackapflhaa
