/- Layer 12 (pages): a word on both sides. -/
import Derived.Test.YtfchenbihepjaaaL12d
namespace Go.Proofs.Ytfchenbihepjaaa
open Go Go.HX
set_option maxRecDepth 4000
set_option maxHeartbeats 1000000
theorem fillRow_one {ws : List Int} {i : Nat} {z : Int} (h : i < ws.length) : fillRow ws i [z] = ws.set i z := by
  unfold fillRow
  rw [List.set_eq_take_append_cons_drop, if_pos h, List.append_assoc]
  rfl
/-- What counts beside the words does not matter. -/
theorem rel_same {x y : BufM} {os : List OneM} (h : Rel12 x os) (e1 : y.bits = x.bits) (e2 : y.hr.ws = x.hr.ws) (e3 : y.wr.ws = x.wr.ws) : Rel12 y os := by
  obtain ⟨xb, ⟨xw, xa, xc⟩, ⟨xh, xd, xe⟩⟩ := x
  obtain ⟨yb, ⟨yw, ya, yc⟩, ⟨yh, yd, ye⟩⟩ := y
  simp only at e1 e2 e3
  subst e1; subst e2; subst e3
  exact ⟨⟨h.ok.bits, h.ok.few, h.ok.len⟩, h.pm, h.up, h.pg, h.wd, h.fm⟩
theorem getD_seg {ws : List Int} {i : Nat} : ws.getD i 0 = ((ws.drop i).take 1).getD 0 0 := by
  rw [List.getD_eq_getElem?_getD, List.getD_eq_getElem?_getD, List.getElem?_take_of_lt (by omega), List.getElem?_drop, Nat.add_zero]
section
variable {x : BufM} {os : List OneM} (h : Rel12 x os)
include h
theorem Rel12.olen {k : Nat} {o : OneM} (ho : os[k]? = some o) : (o.l.length : Int) = sizeZ x.bits := by
  obtain ⟨sz, hs, _, _, hwl⟩ := rel_size h.ok
  have hwd := h.wd o (List.mem_of_getElem? ho)
  rw [seg_nat h.ok o.page hs, hs] at hwd
  have hf := frame_bnd h.ok o.page
  have h1 := Nat.mul_le_mul_right sz (show (x.frame o.page).toNat + 1 ≤ x.hr.ws.length by omega)
  rw [Nat.succ_mul] at h1
  rw [hwd, hs, List.length_take, List.length_drop]
  omega
/-- Where some words stand in their page. -/
theorem Rel12.offs {a n : Int} (a0 : 0 ≤ a) (a1 : a ≤ 281474976710655) (hn : 1 ≤ n ∧ n ≤ roomZ x.bits a) : 0 ≤ offZ x.bits a ∧ offZ x.bits a + n ≤ sizeZ x.bits ∧ sizeZ x.bits ≤ 512 := by
  have hb := h.ok.bits
  obtain ⟨h1, h2⟩ := hn
  unfold roomZ at h2
  unfold offZ
  rcases size_cases x.bits with ⟨_, hs⟩ | ⟨_, hs⟩ | ⟨_, hs⟩ | ⟨_, hs⟩ | ⟨_, hs⟩ | ⟨_, hs⟩ <;> rw [hs] at h2 ⊢
  · omega
  all_goals
    rw [if_pos ⟨by omega, a1⟩] at h2 ⊢
    omega
theorem Rel12.room1 {a : Int} (a1 : a ≤ 281474976710655) : 1 ≤ roomZ x.bits a := by
  have hb := h.ok.bits
  unfold roomZ
  rcases size_cases x.bits with ⟨_, hs⟩ | ⟨_, hs⟩ | ⟨_, hs⟩ | ⟨_, hs⟩ | ⟨_, hs⟩ | ⟨_, hs⟩ <;> rw [hs]
  · omega
  all_goals
    rw [if_pos ⟨by omega, a1⟩]
    omega
/-- One word: it is there just if its page is. -/
theorem Rel12.run_one {a : Int} (hin : x.isIn a) : (runZ x.bits os a 1).2.2 = 0 := by
  rw [← h.run_err, BufM.runR, if_pos hin, if_pos ⟨by omega, h.room1 hin.1⟩]
theorem Rel12.run_none {a : Int} (n : Int) (hin : ¬ x.isIn a) : (runZ x.bits os a n).2.2 = 7 := by
  rw [← h.run_err, BufM.runR, if_neg hin]
/-- Some words of a page. -/
theorem Rel12.words {k n : Nat} {o : OneM} {a : Int} (ho : os[k]? = some o) (hcell : x.cell a = x.frame o.page * sizeZ x.bits + offZ x.bits a) (hoff : 0 ≤ offZ x.bits a ∧ offZ x.bits a + n ≤ sizeZ x.bits) :
    (x.wr.ws.drop (x.cell a).toNat).take n = (o.l.drop (offZ x.bits a).toNat).take n ∧ (x.cell a).toNat = (x.frame o.page * sizeZ x.bits).toNat + (offZ x.bits a).toNat := by
  obtain ⟨sz, hs, _, _, hwl⟩ := rel_size h.ok
  have hf := frame_bnd h.ok o.page
  have hsg := seg_nat h.ok o.page hs
  have hnn : 0 ≤ x.frame o.page * sizeZ x.bits := Int.mul_nonneg hf.1 (by omega)
  have e : (x.cell a).toNat = (x.frame o.page * sizeZ x.bits).toNat + (offZ x.bits a).toNat := by rw [hcell]; omega
  refine ⟨?_, e⟩
  rw [e, h.wd o (List.mem_of_getElem? ho), List.drop_take, List.drop_drop, List.take_take]
  congr 1
  omega
theorem Rel12.word {k : Nat} {o : OneM} {a : Int} (ho : os[k]? = some o) (hcell : x.cell a = x.frame o.page * sizeZ x.bits + offZ x.bits a) (hoff : 0 ≤ offZ x.bits a ∧ offZ x.bits a + 1 ≤ sizeZ x.bits) :
    x.wr.ws.getD (x.cell a).toNat 0 = o.l.getD (offZ x.bits a).toNat 0 := by
  have h1 := (h.words (n := 1) ho hcell hoff).1
  rw [getD_seg, h1, ← getD_seg]
/-- Some words of a page are other ones. -/
theorem Rel12.fill {k : Nat} {o : OneM} {a : Int} {l : List Int} (ho : os[k]? = some o) (hcell : x.cell a = x.frame o.page * sizeZ x.bits + offZ x.bits a) (hoff : 0 ≤ offZ x.bits a ∧ offZ x.bits a + (l.length : Int) ≤ sizeZ x.bits) :
    Rel12 { x with wr := { x.wr with ws := fillRow x.wr.ws (x.cell a).toNat l } } (os.set k { o with l := fillRow o.l (offZ x.bits a).toNat l }) := by
  have e := (h.words (n := l.length) ho hcell hoff).2
  have h1 := rel_fill (l := l) (i := (x.cell a).toNat) h ho (by omega) (by omega)
  rw [show (x.cell a).toNat - (x.frame o.page * sizeZ x.bits).toNat = (offZ x.bits a).toNat by omega] at h1
  exact h1
/-- A word of a page is another one. -/
theorem Rel12.set {k : Nat} {o : OneM} {a z : Int} (ho : os[k]? = some o) (hcell : x.cell a = x.frame o.page * sizeZ x.bits + offZ x.bits a) (hoff : 0 ≤ offZ x.bits a ∧ offZ x.bits a + 1 ≤ sizeZ x.bits) :
    Rel12 { x with wr := x.wr.store (x.cell a) z } (os.set k { o with l := o.l.set (offZ x.bits a).toNat z }) := by
  have hcb := cell_bnd h.ok a
  have h1 := h.fill (l := [z]) ho hcell hoff
  have hol := h.olen ho
  rw [fillRow_one (by omega), fillRow_one (by omega)] at h1
  refine rel_same h1 rfl rfl ?_
  show (x.wr.store (x.cell a) z).ws = _
  rw [RowM.store, if_pos (by omega)]
end
end Go.Proofs.Ytfchenbihepjaaa
