/- Layer 12 (pages): pages that are opened, closed, written stay the document's. -/
import Derived.Test.YtfchenbihepjaaaL12
namespace Go.Proofs.Ytfchenbihepjaaa
open Go Go.HX
set_option maxRecDepth 4000
set_option maxHeartbeats 1000000
/-- A run of a list that lies apart from what is filled. -/
theorem fill_apart {ws l : List Int} {i j n : Nat} (h : i + l.length ≤ ws.length) (ha : j + n ≤ i ∨ i + l.length ≤ j) : ((fillRow ws i l).drop j).take n = (ws.drop j).take n := by
  apply List.ext_getElem?
  intro k
  by_cases hk : k < n
  · rw [List.getElem?_take_of_lt hk, List.getElem?_take_of_lt hk, List.getElem?_drop, List.getElem?_drop]
    unfold fillRow
    by_cases h1 : j + k < i
    · rw [List.append_assoc, List.getElem?_append_left (by rw [List.length_take]; omega), List.getElem?_take_of_lt h1]
    · rw [List.getElem?_append_right (by rw [List.length_append, List.length_take]; omega), List.getElem?_drop, List.length_append, List.length_take]
      congr 1
      omega
  · rw [List.getElem?_eq_none (by rw [List.length_take]; omega), List.getElem?_eq_none (by rw [List.length_take]; omega)]
theorem fill_run {ws l : List Int} {i : Nat} (h : i + l.length ≤ ws.length) : ((fillRow ws i l).drop i).take l.length = l := by
  unfold fillRow
  have e : (ws.take i).length = i := by rw [List.length_take]; omega
  rw [List.append_assoc, List.drop_append_of_le_length (by omega), List.drop_of_length_le (by omega), List.nil_append, List.take_left]
theorem getD_set0 (l : List Int) (i j : Nat) (z : Int) (hi : i < l.length) : (l.set i z).getD j 0 = if i = j then z else l.getD j 0 := getD_set' l i j z hi
theorem seg_apart {f g sz : Nat} (h : f ≠ g) : g * sz + sz ≤ f * sz ∨ f * sz + sz ≤ g * sz := by
  rcases Nat.lt_or_ge g f with hl | hl
  · left
    have := Nat.mul_le_mul_right sz (show g + 1 ≤ f from hl)
    rw [Nat.succ_mul] at this
    exact this
  · right
    have := Nat.mul_le_mul_right sz (show f + 1 ≤ g by omega)
    rw [Nat.succ_mul] at this
    exact this
theorem rel_size {x : BufM} (h : BufOk x) : ∃ sz : Nat, sizeZ x.bits = sz ∧ 32 ≤ sz ∧ sz ≤ 512 ∧ x.wr.ws.length = x.hr.ws.length * sz := by
  have h1 := size_cases x.bits
  have h2 := h.bits
  have h3 := h.len
  refine ⟨(sizeZ x.bits).toNat, by omega, by omega, by omega, ?_⟩
  have e : sizeZ x.bits = ((sizeZ x.bits).toNat : Int) := by omega
  rw [e] at h3
  exact_mod_cast h3
/-- A page's first cell. -/
theorem seg_nat {x : BufM} (h : BufOk x) (p : Int) {sz : Nat} (hs : sizeZ x.bits = sz) : (x.frame p * sizeZ x.bits).toNat = (x.frame p).toNat * sz := by
  have hf := frame_bnd h p
  obtain ⟨f, hf2⟩ := Int.eq_ofNat_of_zero_le hf.1
  rw [hf2, hs, Int.toNat_natCast]
  exact_mod_cast Int.toNat_natCast (f * sz)
theorem rel_open {x : BufM} {os : List OneM} {p : Int} {u1 : Option Addr} {u2 u3 sz : Nat} (h : Rel12 x os) (p0 : 0 ≤ p) (p1 : p ≤ 9223372036854775807) (hn : ¬ x.has p) (hz : x.hr.ws.getD (x.frame p).toNat 0 = 0) (hs : sizeZ x.bits = sz) : (x.openR p).1 = 0 ∧ Rel12 (x.openR p).2 (insO os ⟨p, u1, u2, u3, List.replicate sz 0⟩) := by
  have hf := frame_bnd h.ok p
  obtain ⟨sz', hs', _, _, hwl⟩ := rel_size h.ok
  obtain rfl : sz' = sz := by omega
  have hno : ∀ o ∈ os, o.page ≠ p := fun o ho e => hn (h.has.2 ⟨o, ho, e⟩)
  have hop : x.openR p = (0, { x with hr := x.hr.cas (x.frame p) 0 (p + 1), wr := { x.wr with ws := fillRow x.wr.ws (x.frame p * sizeZ x.bits).toNat (List.replicate (sizeZ x.bits).toNat 0) } }) := by
    unfold BufM.openR
    rw [if_neg (by omega), if_neg hn, if_pos hz]
  have hcas : (x.hr.cas (x.frame p) 0 (p + 1)).ws = x.hr.ws.set (x.frame p).toNat (p + 1) := by
    unfold RowM.cas
    rw [if_pos (show x.hr.there (x.frame p) from ⟨by omega, by omega⟩), if_pos hz]
  rw [hop]
  refine ⟨rfl, ?_⟩
  have hfl : (x.frame p).toNat < x.hr.ws.length := by omega
  have hseg := seg_nat h.ok p hs
  have hrep : (List.replicate (sizeZ x.bits).toNat (0 : Int)).length = sz' := by rw [List.length_replicate]; omega
  have hin : (x.frame p).toNat * sz' + sz' ≤ x.wr.ws.length := by
    have := Nat.mul_le_mul_right sz' (show (x.frame p).toNat + 1 ≤ x.hr.ws.length from hfl)
    rw [Nat.succ_mul] at this
    omega
  have hfr : ∀ q : Int, BufM.frame { x with hr := x.hr.cas (x.frame p) 0 (p + 1), wr := { x.wr with ws := fillRow x.wr.ws (x.frame p * sizeZ x.bits).toNat (List.replicate (sizeZ x.bits).toNat 0) } } q = x.frame q := fun q => by
    show q % ((x.hr.cas (x.frame p) 0 (p + 1)).ws.length : Int) = q % (x.hr.ws.length : Int)
    rw [hcas, List.length_set]
  have hapart : ∀ o ∈ os, (x.frame o.page).toNat ≠ (x.frame p).toNat := fun o ho e => by
    obtain ⟨h0, _, h2⟩ := h.pg o ho
    rw [e, hz] at h2
    omega
  obtain ⟨hup, hmem⟩ := up_ins (x := ⟨p, u1, u2, u3, List.replicate sz' 0⟩) h.up hno
  have hfill : (fillRow x.wr.ws (x.frame p * sizeZ x.bits).toNat (List.replicate (sizeZ x.bits).toNat 0)).length = x.wr.ws.length := fillRow_length (by rw [hseg, hrep]; exact hin)
  refine ⟨⟨h.ok.bits, ?_, ?_⟩, ?_, hup, fun o ho => ?_, fun o ho => ?_, fun f hfb => ?_⟩
  · show 2 ≤ (x.hr.cas (x.frame p) 0 (p + 1)).ws.length ∧ _
    rw [hcas, List.length_set]; exact h.ok.few
  · show ((fillRow x.wr.ws _ _).length : Int) = ((x.hr.cas (x.frame p) 0 (p + 1)).ws.length : Int) * _
    rw [hfill, hcas, List.length_set]; exact h.ok.len
  · show (pagesIn (x.hr.cas (x.frame p) 0 (p + 1)).ws).Perm _
    rw [hcas]
    have h1 := pagesIn_set (z := p + 1) hfl hz (by omega)
    rw [show p + 1 - 1 = p by omega] at h1
    exact h1.trans ((h.pm.cons p).trans ((ins_perm os ⟨p, u1, u2, u3, List.replicate sz' 0⟩).map OneM.page).symm)
  · rw [hfr]
    show 0 ≤ o.page ∧ _ ∧ (x.hr.cas (x.frame p) 0 (p + 1)).ws.getD _ 0 = _
    rw [hcas, getD_set' _ _ _ _ hfl]
    rcases (hmem o).1 ho with rfl | ho
    · rw [if_pos rfl]; exact ⟨p0, p1, rfl⟩
    · rw [if_neg (fun e => hapart o ho e.symm)]; exact h.pg o ho
  · rw [hfr]
    show o.l = ((fillRow x.wr.ws _ _).drop (x.frame o.page * sizeZ x.bits).toNat).take (sizeZ x.bits).toNat
    rcases (hmem o).1 ho with rfl | ho
    · have := fill_run (ws := x.wr.ws) (l := List.replicate (sizeZ x.bits).toNat 0) (i := (x.frame p * sizeZ x.bits).toNat) (by rw [hseg, hrep]; exact hin)
      rw [List.length_replicate] at this
      rw [this, show (sizeZ x.bits).toNat = sz' by omega]
    · rw [h.wd o ho, fill_apart (by rw [hseg, hrep]; exact hin)]
      rw [hrep, hseg, seg_nat h.ok o.page hs, show (sizeZ x.bits).toNat = sz' by omega]
      have := seg_apart (sz := sz') (hapart o ho)
      omega
  · show (x.hr.cas (x.frame p) 0 (p + 1)).ws.getD f 0 = 0 ∨ _
    have hfb : f < (x.hr.cas (x.frame p) 0 (p + 1)).ws.length := hfb
    rw [hcas, List.length_set] at hfb
    rw [show (({ x with hr := x.hr.cas (x.frame p) 0 (p + 1), wr := { x.wr with ws := fillRow x.wr.ws (x.frame p * sizeZ x.bits).toNat (List.replicate (sizeZ x.bits).toNat 0) } } : BufM).hr.ws) = x.hr.ws.set (x.frame p).toNat (p + 1) from hcas, getD_set' _ _ _ _ hfl]
    by_cases e : (x.frame p).toNat = f
    · right
      rw [if_pos e]
      exact ⟨⟨p, u1, u2, u3, List.replicate sz' 0⟩, (hmem _).2 (.inl rfl), by rw [hfr]; exact e, rfl⟩
    · rw [if_neg e]
      rcases h.fm f hfb with h1 | ⟨o, ho, h1, h2⟩
      · exact .inl h1
      · exact .inr ⟨o, (hmem o).2 (.inr ho), by rw [hfr]; exact h1, h2⟩
end Go.Proofs.Ytfchenbihepjaaa
