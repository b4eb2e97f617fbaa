/- Layer 12 (pages): a page that is closed, words that are written stay the document's. -/
import Derived.Test.YtfchenbihepjaaaL12b
namespace Go.Proofs.Ytfchenbihepjaaa
open Go Go.HX
set_option maxRecDepth 4000
set_option maxHeartbeats 1000000
theorem erase_perm {α : Type} : ∀ {l : List α} {k : Nat} {o : α}, l[k]? = some o → l.Perm (o :: l.eraseIdx k)
  | [], _, _, h => by simp at h
  | x :: l, 0, o, h => by
    simp only [List.getElem?_cons_zero, Option.some.injEq] at h
    subst h
    exact List.Perm.refl _
  | x :: l, k + 1, o, h => by
    have := erase_perm (l := l) (k := k) (by simpa using h)
    exact (this.cons x).trans (List.Perm.swap o x _)
theorem rel_close {x : BufM} {os : List OneM} {p : Int} {k : Nat} (h : Rel12 x os) (hk : atN os p = some k) : (x.closeR p).1 = 0 ∧ Rel12 (x.closeR p).2 (os.eraseIdx k) := by
  obtain ⟨y, hy, rfl⟩ := at_get hk
  have hym := List.mem_of_getElem? hy
  have hhas : x.has y.page := h.has.2 ⟨y, hym, rfl⟩
  obtain ⟨y0, y1, y2⟩ := h.pg y hym
  have hf := frame_bnd h.ok y.page
  have hfl : (x.frame y.page).toNat < x.hr.ws.length := by omega
  have hst : (x.hr.store (x.frame y.page) 0).ws = x.hr.ws.set (x.frame y.page).toNat 0 := by
    unfold RowM.store
    rw [if_pos ⟨by omega, by omega⟩]
  have hcl : x.closeR y.page = (0, { x with hr := x.hr.store (x.frame y.page) 0 }) := by unfold BufM.closeR; rw [if_pos hhas]
  rw [hcl]
  refine ⟨rfl, ?_⟩
  have hpm := erase_perm hy
  have hne : ∀ o ∈ os.eraseIdx k, o.page ≠ y.page := by
    have h1 : os.Pairwise (fun a b => a.page ≠ b.page) := h.up.imp (fun hab => by omega)
    have h2 := (hpm.pairwise_iff (R := fun a b : OneM => a.page ≠ b.page) (fun hab => hab.symm)).1 h1
    exact fun o ho => ((List.pairwise_cons.1 h2).1 o ho).symm
  have hmem : ∀ o ∈ os.eraseIdx k, o ∈ os := fun o ho => hpm.mem_iff.2 (List.mem_cons_of_mem _ ho)
  have hapart : ∀ o ∈ os.eraseIdx k, (x.frame y.page).toNat ≠ (x.frame o.page).toNat := fun o ho e => by
    have h2 := (h.pg o (hmem o ho)).2.2
    rw [← e, y2] at h2
    exact hne o ho (by omega)
  have hfr : ∀ q : Int, BufM.frame { x with hr := x.hr.store (x.frame y.page) 0 } q = x.frame q := fun q => by
    show q % ((x.hr.store (x.frame y.page) 0).ws.length : Int) = q % (x.hr.ws.length : Int)
    rw [hst, List.length_set]
  refine ⟨⟨h.ok.bits, ?_, ?_⟩, ?_, h.up.sublist (List.eraseIdx_sublist os k), fun o ho => ?_, fun o ho => ?_, fun f hfb => ?_⟩
  · show 2 ≤ (x.hr.store (x.frame y.page) 0).ws.length ∧ _
    rw [hst, List.length_set]; exact h.ok.few
  · show (x.wr.ws.length : Int) = ((x.hr.store (x.frame y.page) 0).ws.length : Int) * _
    rw [hst, List.length_set]; exact h.ok.len
  · show (pagesIn (x.hr.store (x.frame y.page) 0).ws).Perm _
    rw [hst]
    have h1 := pagesIn_clear hfl (by rw [y2]; omega)
    rw [y2, show y.page + 1 - 1 = y.page by omega] at h1
    exact List.Perm.cons_inv (h1.trans (h.pm.trans (hpm.map OneM.page)))
  · rw [hfr]
    obtain ⟨o0, o1, o2⟩ := h.pg o (hmem o ho)
    refine ⟨o0, o1, ?_⟩
    show (x.hr.store (x.frame y.page) 0).ws.getD _ 0 = _
    rw [hst, getD_set' _ _ _ _ hfl, if_neg (hapart o ho)]
    exact o2
  · rw [hfr]
    exact h.wd o (hmem o ho)
  · have hfb : f < (x.hr.store (x.frame y.page) 0).ws.length := hfb
    rw [hst, List.length_set] at hfb
    rw [show (({ x with hr := x.hr.store (x.frame y.page) 0 } : BufM).hr.ws) = x.hr.ws.set (x.frame y.page).toNat 0 from hst, getD_set' _ _ _ _ hfl]
    by_cases e : (x.frame y.page).toNat = f
    · left; rw [if_pos e]
    · rw [if_neg e]
      rcases h.fm f hfb with h1 | ⟨o, ho, h1, h2⟩
      · exact .inl h1
      · refine .inr ⟨o, ?_, by rw [hfr]; exact h1, h2⟩
        rcases List.mem_cons.1 (hpm.mem_iff.1 ho) with rfl | ho
        · exact absurd h1 e
        · exact ho
theorem up_pages {os : List OneM} {k : Nat} {y y' : OneM} (h : Up os) (hy : os[k]? = some y) (hp : y'.page = y.page) : Up (os.set k y') := by
  have e : (os.set k y').map OneM.page = os.map OneM.page := by
    apply List.ext_getElem?
    intro i
    rw [List.getElem?_map, List.getElem?_map, List.getElem?_set]
    by_cases hk : k = i
    · subst hk
      rw [if_pos rfl, hy]
      have hl := (List.getElem?_eq_some_iff.1 hy).1
      rw [if_pos hl]
      simp [hp]
    · rw [if_neg hk]
  have h1 : (os.map OneM.page).Pairwise (· < ·) := List.pairwise_map.2 h
  rw [← e] at h1
  exact List.pairwise_map.1 h1
theorem fill_in {ws l : List Int} {i b n : Nat} (hb : b ≤ i) (hl : i + l.length ≤ b + n) (hn : b + n ≤ ws.length) : ((fillRow ws i l).drop b).take n = fillRow ((ws.drop b).take n) (i - b) l := by
  have hw : ∀ j, (fillRow ws i l)[j]? = if j < i then ws[j]? else if j < i + l.length then l[j - i]? else ws[j]? := fun j => by
    unfold fillRow
    by_cases h1 : j < i
    · rw [if_pos h1, List.append_assoc, List.getElem?_append_left (by rw [List.length_take]; omega), List.getElem?_take_of_lt h1]
    · rw [if_neg h1]
      by_cases h2 : j < i + l.length
      · rw [if_pos h2, List.append_assoc, List.getElem?_append_right (by rw [List.length_take]; omega), List.getElem?_append_left (by rw [List.length_take]; omega), List.length_take]
        congr 1
        omega
      · rw [if_neg h2, List.getElem?_append_right (by rw [List.length_append, List.length_take]; omega), List.getElem?_drop, List.length_append, List.length_take]
        congr 1
        omega
  have hv : ∀ j, (fillRow ((ws.drop b).take n) (i - b) l)[j]? = if j < i - b then ((ws.drop b).take n)[j]? else if j < i - b + l.length then l[j - (i - b)]? else ((ws.drop b).take n)[j]? := fun j => by
    have hln : ((ws.drop b).take n).length = n := by rw [List.length_take, List.length_drop]; omega
    unfold fillRow
    by_cases h1 : j < i - b
    · rw [if_pos h1, List.append_assoc, List.getElem?_append_left (by rw [List.length_take, hln]; omega), List.getElem?_take_of_lt h1]
    · rw [if_neg h1]
      by_cases h2 : j < i - b + l.length
      · rw [if_pos h2, List.append_assoc, List.getElem?_append_right (by rw [List.length_take, hln]; omega), List.getElem?_append_left (by rw [List.length_take, hln]; omega), List.length_take, hln]
        congr 1
        omega
      · rw [if_neg h2, List.getElem?_append_right (by rw [List.length_append, List.length_take, hln]; omega), List.getElem?_drop, List.length_append, List.length_take, hln]
        congr 1
        omega
  apply List.ext_getElem?
  intro j
  rw [hv]
  by_cases hj : j < n
  · rw [List.getElem?_take_of_lt hj, List.getElem?_take_of_lt hj, List.getElem?_drop, List.getElem?_drop, hw]
    by_cases h1 : j < i - b
    · rw [if_pos h1, if_pos (by omega)]
    · rw [if_neg h1, if_neg (by omega)]
      by_cases h2 : j < i - b + l.length
      · rw [if_pos h2, if_pos (by omega)]
        congr 1
        omega
      · rw [if_neg h2, if_neg (by omega)]
  · rw [List.getElem?_eq_none (by rw [List.length_take]; omega), if_neg (by omega), if_neg (by omega), List.getElem?_eq_none (by rw [List.length_take]; omega)]
/-- Some words of a page are other ones. -/
theorem rel_fill {x : BufM} {os : List OneM} {k i : Nat} {y : OneM} {l : List Int} (h : Rel12 x os) (hk : os[k]? = some y) (hi : (x.frame y.page * sizeZ x.bits).toNat ≤ i) (hl : i + l.length ≤ (x.frame y.page * sizeZ x.bits).toNat + (sizeZ x.bits).toNat) : Rel12 { x with wr := { x.wr with ws := fillRow x.wr.ws i l } } (os.set k { y with l := fillRow y.l (i - (x.frame y.page * sizeZ x.bits).toNat) l }) := by
  obtain ⟨sz, hs, _, _, hwl⟩ := rel_size h.ok
  have hym := List.mem_of_getElem? hk
  have hkl := (List.getElem?_eq_some_iff.1 hk).1
  have hf := frame_bnd h.ok y.page
  have hsz : (sizeZ x.bits).toNat = sz := by omega
  have hseg := seg_nat h.ok y.page hs
  have hin : (x.frame y.page).toNat * sz + sz ≤ x.wr.ws.length := by
    have := Nat.mul_le_mul_right sz (show (x.frame y.page).toNat + 1 ≤ x.hr.ws.length by omega)
    rw [Nat.succ_mul] at this
    omega
  have hfl : (fillRow x.wr.ws i l).length = x.wr.ws.length := fillRow_length (by omega)
  obtain ⟨y', hy'⟩ : ∃ y', y' = ({ y with l := fillRow y.l (i - (x.frame y.page * sizeZ x.bits).toNat) l } : OneM) := ⟨_, rfl⟩
  have hpage : y'.page = y.page := by rw [hy']
  rw [← hy']
  have hcase : ∀ o ∈ os.set k y', o = y' ∨ ∃ j, j ≠ k ∧ os[j]? = some o := fun o ho => by
    obtain ⟨j, hj⟩ := List.mem_iff_getElem?.1 ho
    by_cases e : k = j
    · subst e
      rw [List.getElem?_set, if_pos rfl, if_pos hkl] at hj
      exact .inl (by simpa using hj.symm)
    · rw [List.getElem?_set_ne e] at hj
      exact .inr ⟨j, fun e2 => e e2.symm, hj⟩
  have hother : ∀ j o, j ≠ k → os[j]? = some o → (x.frame o.page).toNat ≠ (x.frame y.page).toNat := fun j o hj ho e => by
    have h1 := (h.pg o (List.mem_of_getElem? ho)).2.2
    have h2 := (h.pg y hym).2.2
    rw [e, h2] at h1
    have hp : o.page = y.page := by omega
    have hjl := (List.getElem?_eq_some_iff.1 ho).1
    have hup := List.pairwise_iff_getElem.1 h.up
    have eo := (List.getElem?_eq_some_iff.1 ho).2
    have ey := (List.getElem?_eq_some_iff.1 hk).2
    rcases Nat.lt_or_ge j k with hlt | hge
    · have := hup j k hjl hkl hlt
      rw [eo, ey] at this; omega
    · have := hup k j hkl hjl (by omega)
      rw [eo, ey] at this; omega
  refine ⟨⟨h.ok.bits, h.ok.few, ?_⟩, ?_, up_pages h.up hk hpage, fun o ho => ?_, fun o ho => ?_, fun f hfb => ?_⟩
  · show ((fillRow x.wr.ws i l).length : Int) = _
    rw [hfl]; exact h.ok.len
  · have e : (os.set k y').map OneM.page = os.map OneM.page := by
      apply List.ext_getElem?
      intro j
      rw [List.getElem?_map, List.getElem?_map, List.getElem?_set]
      by_cases e : k = j
      · subst e
        rw [if_pos rfl, if_pos hkl, hk]
        simp [hpage]
      · rw [if_neg e]
    rw [e]; exact h.pm
  · rcases hcase o ho with rfl | ⟨j, _, hj⟩
    · have := h.pg y hym
      rw [hpage]; exact this
    · exact h.pg o (List.mem_of_getElem? hj)
  · show o.l = ((fillRow x.wr.ws i l).drop (x.frame o.page * sizeZ x.bits).toNat).take (sizeZ x.bits).toNat
    rcases hcase o ho with rfl | ⟨j, hjk, hj⟩
    · rw [hpage, fill_in hi hl (by omega), ← h.wd y hym, hy']
    · rw [h.wd o (List.mem_of_getElem? hj), fill_apart (by omega)]
      rw [seg_nat h.ok o.page hs, hsz]
      have := seg_apart (sz := sz) (hother j o hjk hj)
      omega
  · rcases h.fm f hfb with h1 | ⟨o, ho, h1, h2⟩
    · exact .inl h1
    · right
      obtain ⟨j, hj⟩ := List.mem_iff_getElem?.1 ho
      by_cases e : k = j
      · subst e
        rw [hk] at hj
        cases hj
        exact ⟨y', List.mem_iff_getElem?.2 ⟨k, by rw [List.getElem?_set, if_pos rfl, if_pos hkl]⟩, by rw [hpage]; exact h1, by rw [hpage]; exact h2⟩
      · exact ⟨o, List.mem_iff_getElem?.2 ⟨j, by rw [List.getElem?_set_ne e]; exact hj⟩, h1, h2⟩
end Go.Proofs.Ytfchenbihepjaaa
