/- Layer 18 (inplace): a record on a page, who is at it, by definition; what a page's words say of it. -/
import Derived.Test.YtjoicobfjpaepaaP18r
namespace Go.Proofs.Ytjoicobfjpaepaa
open Go Go.HX
set_option maxRecDepth 4000
set_option maxHeartbeats 1000000
/-- A lock apart, and a value's words. -/
structure CelM where
  locked : Bool
  count : Int
  l : List Int
/-- Who is at a record. -/
structure WkM where
  reads : Bool
  adds : Bool
  n : Int
  l : List Int
  mv : Nat
  done : Bool
  seen : Int
  got : List Int
def WkM.at_ (x : WkM) : Nat := x.mv - 1 - (if x.adds = true then 1 else 0)
def WkM.wr (x : WkM) (c : CelM) : Int × WkM × CelM :=
  if x.mv = 0 then (if c.locked = true then (3, x, c) else (1, { x with mv := 1 }, { c with locked := true }))
  else if x.adds = true ∧ x.mv = 1 then (1, { x with l := [(c.l.getD 0 0 + x.n) % 18446744073709551616], mv := 2 }, c)
  else if x.at_ < x.l.length then (1, { x with mv := x.mv + 1 }, { c with l := c.l.set x.at_ (x.l.getD x.at_ 0) })
  else (2, { x with done := true }, { c with locked := false, count := (c.count + 1) % 4294967296 })
def WkM.rd (x : WkM) (c : CelM) : Int × WkM × CelM :=
  if x.mv = 0 then (if c.locked = true then (3, x, c) else (1, { x with seen := c.count, got := [], mv := 1 }, c))
  else if x.mv - 1 < c.l.length then (1, { x with got := x.got ++ [c.l.getD (x.mv - 1) 0], mv := x.mv + 1 }, c)
  else if c.locked = true ∨ c.count ≠ x.seen then (3, { x with mv := 0 }, c)
  else (2, { x with done := true }, c)
def WkM.move (x : WkM) (c : CelM) : Int × WkM × CelM := if x.done = true then (2, x, c) else if x.reads = true then x.rd c else x.wr c
def WkM.holds (x : WkM) : Prop := x.reads = false ∧ 0 < x.mv ∧ x.done = false
def lockW (c : CelM) : Int := (if c.locked = true then 9223372036854775808 else 0) + c.count
/-- A page's words say so. -/
structure OnPage (x : BufM) (c : CelM) (n : Nat) : Prop where
  bits : x.bits = 6
  few : x.hr.ws.length = 2
  fst : x.hr.ws.getD 0 0 = 1
  len : x.wr.ws.length = 128
  lk : x.wr.ws.getD 2 0 = lockW c
  wds : ∀ i, i < c.l.length → x.wr.ws.getD (5 + i) 0 = c.l.getD i 0
  le : c.l.length = (n + 7) / 8 ∧ n ≤ 128
  cnt : 0 ≤ c.count ∧ c.count < 4294967296
  bnd : ∀ i, 0 ≤ c.l.getD i 0 ∧ c.l.getD i 0 ≤ 18446744073709551615
  tail : tailOk c.l n
theorem lockW_bnd {c : CelM} (h : 0 ≤ c.count ∧ c.count < 4294967296) : 0 ≤ lockW c ∧ lockW c ≤ 18446744073709551615 := by
  unfold lockW; split <;> omega
theorem lock_free {c : CelM} (h : 0 ≤ c.count ∧ c.count < 4294967296) (hl : c.locked = false) : lockV (lockW c) = (lockW { c with locked := true }, 0) := by
  unfold lockW lockV
  rw [hl]
  simp only [Bool.false_eq_true, if_false, if_true]
  rw [if_neg (by omega), if_neg (by omega)]
  congr 1
  omega
theorem lock_held {c : CelM} (h : 0 ≤ c.count ∧ c.count < 4294967296) (hl : c.locked = true) : lockV (lockW c) = (0, 10) := by
  unfold lockW lockV
  rw [hl]
  simp only [if_true]
  rw [if_neg (by omega), if_pos (by omega)]
theorem unlock_held {c : CelM} (h : 0 ≤ c.count ∧ c.count < 4294967296) (hl : c.locked = true) : unlockV (lockW c) = (lockW { c with locked := false, count := (c.count + 1) % 4294967296 }, 0) := by
  unfold lockW unlockV
  rw [hl]
  simp only [if_true, Bool.false_eq_true, if_false]
  rw [if_neg (by omega), if_neg (by omega)]
  congr 1
  omega
theorem byteW_at (l : List Int) (j k : Nat) (hk : k < 8) : byteW l (8 * j + k) = (l.getD j 0).toNat / 256 ^ k % 256 := by
  have hd : (8 * j + k) / 8 = j := by omega
  have hm : (8 * j + k) % 8 = k := by omega
  unfold byteW
  rw [hd, hm]
theorem getD_set (l : List Int) (i j : Nat) (z : Int) : (l.set i z).getD j 0 = if i = j ∧ i < l.length then z else l.getD j 0 := by
  rw [List.getD_eq_getElem?_getD, List.getD_eq_getElem?_getD, List.getElem?_set]
  by_cases h : i = j
  · subst h
    by_cases h2 : i < l.length
    · simp [h2]
    · simp [h2]
  · simp [h]
theorem tail_set {l m : List Int} {n : Nat} (hl : tailOk l n) (hm : tailOk m n) (he : l.length = m.length) (i : Nat) : tailOk (l.set i (m.getD i 0)) n := by
  intro j h1 h2
  rw [List.length_set] at h2
  have hj := hl j h1 h2
  have hj2 := hm j h1 (by omega)
  unfold byteW at *
  rw [getD_set]
  by_cases h : i = j / 8 ∧ i < l.length
  · rw [if_pos h, h.1]; exact hj2
  · rw [if_neg h]; exact hj
theorem getD_push (l : List Int) (z : Int) (j : Nat) : (l ++ [z]).getD j 0 = if j = l.length then z else l.getD j 0 := by
  rw [List.getD_eq_getElem?_getD, List.getD_eq_getElem?_getD]
  by_cases h : j < l.length
  · rw [List.getElem?_append_left h, if_neg (by omega)]
  · rw [List.getElem?_append_right (by omega)]
    by_cases h2 : j = l.length
    · subst h2; simp
    · rw [if_neg h2, List.getElem?_eq_none (by simp; omega), List.getElem?_eq_none (by omega)]
theorem tail_push {l m : List Int} {n : Nat} (hl : tailOk l n) (hm : tailOk m n) (h : l.length < m.length) : tailOk (l ++ [m.getD l.length 0]) n := by
  intro j h1 h2
  rw [List.length_append] at h2
  simp only [List.length_singleton] at h2
  unfold byteW
  rw [getD_push]
  by_cases hj : j / 8 = l.length
  · rw [if_pos hj, ← hj]
    have := hm j h1 (by omega)
    unfold byteW at this
    exact this
  · rw [if_neg hj]
    have := hl j h1 (by omega)
    unfold byteW at this
    exact this
theorem tail_eight (l : List Int) {n : Nat} (h : 8 * l.length ≤ n) : tailOk l n := fun i h1 h2 => by omega
section
variable {x : BufM} {c : CelM} {n : Nat} (h : OnPage x c n)
include h
theorem OnPage.six : sizeZ x.bits = 64 := by unfold sizeZ; rw [h.bits]; decide
theorem OnPage.ok : BufOk x := by
  refine ⟨by rw [h.bits]; omega, by rw [h.few]; omega, ?_⟩
  rw [h.len, h.few, h.six]
  rfl
theorem OnPage.page {a : Int} (a0 : 0 ≤ a) (a1 : a < 64) : pageZ x.bits a = 0 := by
  unfold pageZ
  rw [h.six, if_pos ⟨by omega, by omega⟩]
  omega
theorem OnPage.off {a : Int} (a0 : 0 ≤ a) (a1 : a < 64) : offZ x.bits a = a := by
  unfold offZ
  rw [h.six, if_pos ⟨by omega, by omega⟩]
  omega
theorem OnPage.room : roomZ x.bits 5 = 59 := by
  unfold roomZ
  rw [h.six, if_pos ⟨by omega, by omega⟩]
  rfl
theorem OnPage.frame0 : x.frame 0 = 0 := by
  unfold BufM.frame
  rw [h.few]
  rfl
theorem OnPage.cell {a : Int} (a0 : 0 ≤ a) (a1 : a < 64) : x.cell a = a := by
  unfold BufM.cell
  rw [h.page a0 a1, h.off a0 a1, h.frame0]
  omega
theorem OnPage.isIn {a : Int} (a0 : 0 ≤ a) (a1 : a < 64) : x.isIn a := by
  refine ⟨by omega, ?_⟩
  unfold BufM.has
  rw [h.page a0 a1, h.frame0]
  refine ⟨by omega, ?_⟩
  unfold RowM.load
  rw [if_pos (by rw [h.few]; omega)]
  exact h.fst
theorem OnPage.lock : x.wd 2 = lockW c := by
  unfold BufM.wd
  rw [h.cell (by omega) (by omega)]
  exact h.lk
theorem OnPage.word {i : Nat} (hi : i < c.l.length) : x.wd (5 + i) = c.l.getD i 0 := by
  have := h.le
  unfold BufM.wd
  rw [h.cell (by omega) (by omega), show ((5 : Int) + i).toNat = 5 + i by omega]
  exact h.wds i hi
/-- The lock is another one. -/
theorem OnPage.relock {x' : BufM} {z : Int} (b : Bool) (k : Int) (k0 : 0 ≤ k ∧ k < 4294967296) (hz : z = lockW { c with locked := b, count := k }) (hb : x'.bits = x.bits) (hh : x'.hr = x.hr) (hw : x'.wr.ws = x.wr.ws.set 2 z) : OnPage x' { c with locked := b, count := k } n := by
  have hl := h.len
  refine ⟨by rw [hb]; exact h.bits, by rw [hh]; exact h.few, by rw [hh]; exact h.fst, by rw [hw, List.length_set]; exact hl, ?_, fun i hi => ?_, h.le, k0, h.bnd, h.tail⟩
  · rw [hw, getD_set, if_pos ⟨rfl, by omega⟩]; exact hz
  · rw [hw, getD_set, if_neg (by omega)]; exact h.wds i hi
theorem OnPage.reword {x' : BufM} {i : Nat} {m : List Int} (hi : i < c.l.length) (hm : m.length = c.l.length) (ht : tailOk m n) (hmb : ∀ i, 0 ≤ m.getD i 0 ∧ m.getD i 0 ≤ 18446744073709551615) (hb : x'.bits = x.bits) (hh : x'.hr = x.hr) (hw : x'.wr.ws = x.wr.ws.set (5 + i) (m.getD i 0)) : OnPage x' { c with l := c.l.set i (m.getD i 0) } n := by
  have hl := h.len
  have hle := h.le
  refine ⟨by rw [hb]; exact h.bits, by rw [hh]; exact h.few, by rw [hh]; exact h.fst, by rw [hw, List.length_set]; exact hl, ?_, fun j hj => ?_, by rw [List.length_set]; exact hle, h.cnt, fun j => ?_, tail_set h.tail ht hm.symm i⟩
  · rw [hw, getD_set, if_neg (by omega)]; exact h.lk
  · rw [List.length_set] at hj
    rw [hw, getD_set, getD_set]
    by_cases hij : i = j
    · rw [if_pos ⟨by omega, by omega⟩, if_pos ⟨hij, hi⟩]
    · rw [if_neg (by omega), if_neg (by omega)]; exact h.wds j hj
  · rw [getD_set]; split
    · exact hmb i
    · exact h.bnd j
end
/-- A writer of the program is one of the document's. -/
structure IsWr (y : WrM) (l : List Int) (k : WkM) (c : CelM) (n : Nat) : Prop where
  lock : y.lock = 2
  val : y.val = 5
  words : y.words = c.l.length
  add : y.add = k.adds
  num : y.n = k.n
  rds : k.reads = false
  len : l.length = c.l.length
  one : k.adds = true → c.l.length = 1 ∧ n = 8
  nb : 0 ≤ k.n ∧ k.n ≤ 18446744073709551615
  bnd : ∀ i, 0 ≤ l.getD i 0 ∧ l.getD i 0 ≤ 18446744073709551615
  tail : tailOk l n
  same : (k.adds = false ∨ 2 ≤ k.mv) → l = k.l
  stD : k.done = true → y.st = 4
  st0 : k.done = false → k.mv = 0 → y.st = 0 ∧ y.at_ = 0
  held : k.done = false → 1 ≤ k.mv → c.locked = true ∧ y.held = lockW c
  st1 : k.done = false → k.mv = 1 → k.adds = true → y.st = 1 ∧ y.at_ = 0
  st2 : k.done = false → 1 ≤ k.mv → (k.adds = false ∨ 2 ≤ k.mv) → y.at_ = k.at_ ∧ k.at_ ≤ c.l.length ∧ y.st = if k.at_ < c.l.length then 2 else 3
/-- A reader of the program is one of the document's. -/
structure IsRd (y : RdM) (l : List Int) (k : WkM) (c : CelM) (n : Nat) : Prop where
  lock : y.lock = 2
  val : y.val = 5
  words : y.words = c.l.length
  num : y.n = n
  rds : k.reads = true
  len : c.l.length = (n + 7) / 8
  bnd : ∀ i, 0 ≤ k.got.getD i 0 ∧ k.got.getD i 0 ≤ 18446744073709551615
  stD : k.done = true → y.st = 4 ∧ y.value = strOfNums (bytesZ k.got n) ∧ k.got.length = (n + 7) / 8 ∧ tailOk k.got n
  empty : k.done = false → y.value = ⟨#[]⟩
  st0 : k.done = false → k.mv = 0 → y.st = 0
  st1 : k.done = false → 1 ≤ k.mv → y.st = 1 ∧ l = k.got ∧ k.got.length = k.mv - 1 ∧ k.mv - 1 ≤ c.l.length ∧ y.seen = k.seen ∧ 0 ≤ k.seen ∧ k.seen < 4294967296 ∧ tailOk k.got n
end Go.Proofs.Ytjoicobfjpaepaa
