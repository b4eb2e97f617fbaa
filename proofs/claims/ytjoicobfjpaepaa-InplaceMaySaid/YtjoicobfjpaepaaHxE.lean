/- HX, part E: memory, in parts that stand apart. -/
import Derived.Test.YtjoicobfjpaepaaHxD
namespace Go.HX
open Go Go.RowKit

abbrev Hp := Nat → Option Obj
abbrev HProp := Hp → Prop
def emp : HProp := fun H => H = fun _ => none
def pt (b : Nat) (o : Obj) : HProp := fun H => H = fun i => if i = b then some o else none
def Hun (H1 H2 : Hp) : Hp := fun i => match H1 i with
  | some o => some o
  | none => H2 i
def Hdis (H1 H2 : Hp) : Prop := ∀ i, H1 i = none ∨ H2 i = none
def sep (A B : HProp) : HProp := fun H => ∃ H1 H2, A H1 ∧ B H2 ∧ Hdis H1 H2 ∧ H = Hun H1 H2
def hex {α : Type} (A : α → HProp) : HProp := fun H => ∃ x, A x H
def hpure (p : Prop) (A : HProp) : HProp := fun H => p ∧ A H

theorem Hun_comm {H1 H2 : Hp} (h : Hdis H1 H2) : Hun H1 H2 = Hun H2 H1 := by
  funext i; unfold Hun
  rcases h i with h | h <;> rw [h] <;> simp
  · cases H2 i <;> rfl
  · cases H1 i <;> rfl
theorem Hun_assoc (H1 H2 H3 : Hp) : Hun (Hun H1 H2) H3 = Hun H1 (Hun H2 H3) := by
  funext i; unfold Hun; cases H1 i <;> rfl
theorem Hun_none {H1 H2 : Hp} {i : Nat} : Hun H1 H2 i = none ↔ H1 i = none ∧ H2 i = none := by
  unfold Hun; cases H1 i <;> simp
theorem sep_comm (A B : HProp) : sep A B = sep B A := by
  have key : ∀ A B : HProp, ∀ H, sep A B H → sep B A H := fun A B H ⟨H1, H2, a, b, d, e⟩ => ⟨H2, H1, b, a, fun i => (d i).symm, by rw [e, Hun_comm d]⟩
  funext H; exact propext ⟨key A B H, key B A H⟩
theorem sep_assoc (A B C : HProp) : sep (sep A B) C = sep A (sep B C) := by
  funext H; apply propext
  constructor
  · rintro ⟨H12, H3, ⟨H1, H2, a, b, d1, rfl⟩, c, d2, rfl⟩
    refine ⟨H1, Hun H2 H3, a, ⟨H2, H3, b, c, fun i => ?_, rfl⟩, fun i => ?_, Hun_assoc _ _ _⟩
    · rcases d2 i with h | h
      · exact .inl (Hun_none.1 h).2
      · exact .inr h
    · rcases d2 i with h | h
      · exact .inl (Hun_none.1 h).1
      · rcases d1 i with h' | h'
        · exact .inl h'
        · exact .inr (Hun_none.2 ⟨h', h⟩)
  · rintro ⟨H1, H23, a, ⟨H2, H3, b, c, d1, rfl⟩, d2, rfl⟩
    refine ⟨Hun H1 H2, H3, ⟨H1, H2, a, b, fun i => ?_, rfl⟩, c, fun i => ?_, (Hun_assoc _ _ _).symm⟩
    · rcases d2 i with h | h
      · exact .inl h
      · exact .inr (Hun_none.1 h).1
    · rcases d1 i with h | h
      · rcases d2 i with h' | h'
        · exact .inl (Hun_none.2 ⟨h', h⟩)
        · exact .inr (Hun_none.1 h').2
      · exact .inr h

def sepL : List HProp → HProp
  | [] => emp
  | A :: G => sep A (sepL G)

/-- Where a call began: what is owned was made since. -/
structure SP where
  base : Nat
  w0 : World

structure Sat (S : SP) (w : World) (G : List HProp) : Prop where
  below : Below S.base S.w0 w
  le : S.base ≤ S.w0.heap.size
  own : ∃ H, sepL G H ∧ ∀ i o, H i = some o → w.heap[i]? = some o ∧ S.base ≤ i

inductive Has : List HProp → HProp → List HProp → Prop
  | here {A : HProp} {G : List HProp} : Has (A :: G) A G
  | there {A B : HProp} {G G' : List HProp} (h : Has G A G') : Has (B :: G) A (B :: G')

theorem Has.eq {G G' : List HProp} {A : HProp} (h : Has G A G') : sepL G = sepL (A :: G') := by
  induction h with
  | here => rfl
  | @there A B G G' h ih =>
    show sep B (sepL G) = sep A (sep B (sepL G'))
    rw [ih]
    show sep B (sep A (sepL G')) = _
    rw [← sep_assoc, ← sep_assoc, sep_comm B A]

inductive Sub : List HProp → List HProp → Prop
  | refl (G : List HProp) : Sub G G
  | nil (G : List HProp) : Sub [] G
  | cons {A : HProp} {G G1 G' : List HProp} (h : Has G A G1) (r : Sub G' G1) : Sub (A :: G') G
  | skip {A : HProp} {G G' : List HProp} (r : Sub G' G) : Sub G' (A :: G)

section
variable {S : SP} {w w' : World} {G G' : List HProp} {A B : HProp}
theorem Sat.eq (h : Sat S w G) (he : sepL G = sepL G') : Sat S w G' := ⟨h.below, h.le, by rw [← he]; exact h.own⟩
theorem Sat.pick (h : Sat S w G) (hh : Has G A G') : Sat S w (A :: G') := h.eq hh.eq
theorem Sat.drop (h : Sat S w (A :: G)) : Sat S w G := by
  obtain ⟨H, ⟨H1, H2, a, b, d, rfl⟩, ho⟩ := h.own
  refine ⟨h.below, h.le, H2, b, fun i o hi => ho i o ?_⟩
  unfold Hun
  rcases d i with h' | h'
  · rw [h']; exact hi
  · rw [h'] at hi; cases hi
theorem Sat.mono (h : Sat S w (A :: G)) (hab : ∀ H, A H → B H) : Sat S w (B :: G) := by
  obtain ⟨H, ⟨H1, H2, a, b, d, rfl⟩, ho⟩ := h.own
  exact ⟨h.below, h.le, _, ⟨H1, H2, hab _ a, b, d, rfl⟩, ho⟩
theorem Sat.nil (h : Sat S w G) : Sat S w [] := ⟨h.below, h.le, fun _ => none, rfl, fun i o hi => by cases hi⟩
theorem sep_mono_r {A B C : HProp} (h : ∀ H, B H → C H) : ∀ H, sep A B H → sep A C H := fun _ ⟨H1, H2, a, b, d, e⟩ => ⟨H1, H2, a, h _ b, d, e⟩
theorem Sub.part (hs : Sub G' G) : ∀ H, sepL G H → ∃ H', sepL G' H' ∧ ∀ i o, H' i = some o → H i = some o := by
  induction hs with
  | refl => exact fun H h => ⟨H, h, fun _ _ h => h⟩
  | nil => exact fun H h => ⟨fun _ => none, rfl, fun i o hi => by cases hi⟩
  | cons hh r ih =>
    intro H h
    rw [hh.eq] at h
    obtain ⟨H1, H2, a, b, d, rfl⟩ := h
    obtain ⟨H2', b', hle⟩ := ih H2 b
    have hd : Hdis H1 H2' := fun i => by
      rcases d i with h' | h'
      · exact .inl h'
      · refine .inr ?_
        cases hi : H2' i with
        | none => rfl
        | some o => rw [hle i o hi] at h'; cases h'
    refine ⟨Hun H1 H2', ⟨H1, H2', a, b', hd, rfl⟩, fun i o hi => ?_⟩
    unfold Hun at hi ⊢
    cases h1 : H1 i with
    | some o' => rw [h1] at hi; exact hi
    | none => rw [h1] at hi; exact hle i o hi
  | skip r ih =>
    intro H h
    obtain ⟨H1, H2, a, b, d, rfl⟩ := h
    obtain ⟨H2', b', hle⟩ := ih H2 b
    refine ⟨H2', b', fun i o hi => ?_⟩
    have h2 := hle i o hi
    unfold Hun
    rcases d i with h' | h'
    · rw [h']; exact h2
    · rw [h'] at h2; cases h2
theorem Sat.sub (h : Sat S w G) (hs : Sub G' G) : Sat S w G' := by
  obtain ⟨H, g, ho⟩ := h.own
  obtain ⟨H', g', hle⟩ := hs.part H g
  exact ⟨h.below, h.le, H', g', fun i o hi => ho i o (hle i o hi)⟩

theorem Sat_sep : Sat S w (sep A B :: G) ↔ Sat S w (A :: B :: G) :=
  ⟨fun h => h.eq (sep_assoc _ _ _), fun h => h.eq (sep_assoc _ _ _).symm⟩
theorem Sat_ex {α : Type} {A : α → HProp} : Sat S w (hex A :: G) ↔ ∃ x, Sat S w (A x :: G) := by
  constructor
  · intro h
    obtain ⟨H, ⟨H1, H2, ⟨x, a⟩, b, d, rfl⟩, ho⟩ := h.own
    exact ⟨x, h.below, h.le, _, ⟨H1, H2, a, b, d, rfl⟩, ho⟩
  · rintro ⟨x, h⟩
    exact h.mono (fun H a => ⟨x, a⟩)
theorem Sat_pure {p : Prop} : Sat S w (hpure p A :: G) ↔ p ∧ Sat S w (A :: G) := by
  constructor
  · intro h
    obtain ⟨H, ⟨H1, H2, ⟨hp, a⟩, b, d, rfl⟩, ho⟩ := h.own
    exact ⟨hp, h.below, h.le, _, ⟨H1, H2, a, b, d, rfl⟩, ho⟩
  · rintro ⟨hp, h⟩
    exact h.mono (fun H a => ⟨hp, a⟩)
theorem Sat_emp : Sat S w (emp :: G) ↔ Sat S w G := by
  constructor
  · exact fun h => h.drop
  · intro h
    obtain ⟨H, hg, ho⟩ := h.own
    refine ⟨h.below, h.le, H, ⟨fun _ => none, H, rfl, hg, fun i => .inl rfl, rfl⟩, ho⟩

theorem Sat.block {b : Nat} {o : Obj} (h : Sat S w (pt b o :: G)) : w.heap[b]? = some o := by
  obtain ⟨H, ⟨H1, H2, a, _, d, rfl⟩, ho⟩ := h.own
  unfold pt at a
  subst a
  exact (ho b o (by simp [Hun])).1
theorem Sat.at {b : Nat} {o : Obj} (h : Sat S w G) (hh : Has G (pt b o) G') : w.heap[b]? = some o := (h.pick hh).block
theorem Sat.ge {b : Nat} {o : Obj} (h : Sat S w (pt b o :: G)) : S.base ≤ b := by
  obtain ⟨H, ⟨H1, H2, a, _, d, rfl⟩, ho⟩ := h.own
  unfold pt at a
  subst a
  exact (ho b o (by simp [Hun])).2

/-- Another heap, that differs in one owned block. -/
theorem Sat.write {b : Nat} {o o' : Obj} (h : Sat S w (pt b o :: G)) (hos : w'.os = w.os) (ht : w'.tape = w.tape) (hout : w'.output = w.output) (hsz : w.heap.size ≤ w'.heap.size)
    (hb : w'.heap[b]? = some o') (hne : ∀ i, i ≠ b → i < w.heap.size → w'.heap[i]? = w.heap[i]?) : Sat S w' (pt b o' :: G) := by
  have hge := h.ge
  obtain ⟨H, ⟨H1, H2, a, g, d, rfl⟩, ho⟩ := h.own
  unfold pt at a
  subst a
  have hlt : ∀ i, i < S.base → i < w.heap.size := fun i hi => Nat.lt_of_lt_of_le hi (Nat.le_trans h.le h.below.size)
  refine ⟨h.below.trans ⟨hos, ht, hout, hsz, fun i hi => hne i (by omega) (hlt i hi)⟩, h.le, Hun (fun i => if i = b then some o' else none) H2, ⟨_, H2, rfl, g, fun i => ?_, rfl⟩, fun i o1 hi => ?_⟩
  · by_cases hib : i = b
    · subst hib
      refine .inr ((d i).resolve_left (by simp))
    · exact .inl (by simp [hib])
  · unfold Hun at hi
    by_cases hib : i = b
    · subst hib
      simp at hi
      subst hi
      exact ⟨hb, hge⟩
    · simp [hib] at hi
      have h1 := ho i o1 (by simp [Hun, hib, hi])
      refine ⟨?_, h1.2⟩
      rw [hne i hib (Array.getElem?_eq_some_iff.1 h1.1).1]
      exact h1.1

/-- A world whose heap is the same. -/
theorem Sat.heapEq (h : Sat S w G) (hos : w'.os = w.os) (ht : w'.tape = w.tape) (hout : w'.output = w.output) (hh : w'.heap = w.heap) : Sat S w' G := by
  obtain ⟨H, g, ho⟩ := h.own
  exact ⟨h.below.trans ⟨hos, ht, hout, by rw [hh]; exact Nat.le_refl _, fun i _ => by rw [hh]⟩, h.le, H, g, fun i o hi => by rw [hh]; exact ho i o hi⟩
theorem Sat.drew (h : Sat S w G) : Sat S w.drew G := h.heapEq rfl rfl rfl rfl

theorem Sat.alloc (h : Sat S w G) (o : Obj) : Sat S (w.alloc o) (pt w.heap.size o :: G) := by
  obtain ⟨H, g, ho⟩ := h.own
  have hlt : ∀ i, i < S.base → i < w.heap.size := fun i hi => Nat.lt_of_lt_of_le hi (Nat.le_trans h.le h.below.size)
  have hold : ∀ i, i < w.heap.size → (w.alloc o).heap[i]? = w.heap[i]? := fun i hi => Below.heap_alloc w o i hi
  have hnew : (w.alloc o).heap[w.heap.size]? = some o := heap_alloc_new w o
  have hbs : S.base ≤ w.heap.size := Nat.le_trans h.le h.below.size
  refine ⟨h.below.trans ⟨rfl, rfl, rfl, by simp, fun i hi => hold i (hlt i hi)⟩, h.le, Hun (fun i => if i = w.heap.size then some o else none) H, ⟨_, H, rfl, g, fun i => ?_, rfl⟩, fun i o1 hi => ?_⟩
  · by_cases hib : i = w.heap.size
    · refine .inr ?_
      cases hi : H i with
      | none => rfl
      | some o1 => have := (Array.getElem?_eq_some_iff.1 (ho i o1 hi).1).1; omega
    · exact .inl (by simp [hib])
  · unfold Hun at hi
    by_cases hib : i = w.heap.size
    · subst hib
      simp at hi
      subst hi
      exact ⟨hnew, hbs⟩
    · simp [hib] at hi
      have h1 := ho i o1 hi
      exact ⟨by rw [hold i (Array.getElem?_eq_some_iff.1 h1.1).1]; exact h1.1, h1.2⟩

/-- The blocks of two parts are two. -/
theorem Sat.ne {b b' : Nat} {o o' : Obj} (h : Sat S w (pt b o :: pt b' o' :: G)) : b ≠ b' := by
  obtain ⟨H, ⟨H1, H2, a, ⟨H3, H4, a2, _, _, rfl⟩, d, rfl⟩, ho⟩ := h.own
  unfold pt at a a2
  subst a
  subst a2
  intro he
  subst he
  rcases d b with h | h
  · simp at h
  · simp [Hun] at h

/-- What stood there when the call began stands there. -/
theorem Sat.old (h : Sat S w G) {b : Nat} (hb : b < S.base) : w.heap[b]? = S.w0.heap[b]? := h.below.block b hb
theorem Sat.begin (w : World) : Sat ⟨w.heap.size, w⟩ w [] := ⟨Below.refl _ _, Nat.le_refl _, fun _ => none, rfl, fun i o hi => by cases hi⟩
end
end Go.HX
