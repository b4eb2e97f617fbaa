/- Layer 12 (pages): the program's pages are the document's. -/
import Derived.Test.YtfchenbihepjaaaP12p
import Derived.Test.YtfchenbihepjaaaR12c
namespace Go.Proofs.Ytfchenbihepjaaa
open Go Go.HX
set_option maxRecDepth 4000
set_option maxHeartbeats 1000000
theorem pagesIn_cons (z : Int) (ws : List Int) : pagesIn (z :: ws) = (if 0 < z then [z - 1] else []) ++ pagesIn ws := by
  unfold pagesIn
  by_cases h : 0 < z
  · rw [if_pos h, List.filter_cons_of_pos (by simpa using h)]; rfl
  · rw [if_neg h, List.filter_cons_of_neg (by simpa using h)]; rfl
/-- A frame that has no page gets one. -/
theorem pagesIn_set : ∀ {ws : List Int} {f : Nat} {z : Int}, f < ws.length → ws.getD f 0 = 0 → 0 < z → (pagesIn (ws.set f z)).Perm ((z - 1) :: pagesIn ws)
  | [], _, _, h, _, _ => by simp at h
  | y :: ws, 0, z, _, h0, hz => by
    have h0 : y = 0 := h0
    show (pagesIn (z :: ws)).Perm _
    rw [pagesIn_cons, pagesIn_cons, if_pos hz, if_neg (by omega)]
    exact List.Perm.refl _
  | y :: ws, f + 1, z, h, h0, hz => by
    have ih := pagesIn_set (ws := ws) (f := f) (z := z) (by simpa using h) h0 hz
    show (pagesIn (y :: ws.set f z)).Perm _
    rw [pagesIn_cons, pagesIn_cons]
    exact ((ih.append_left _).trans (List.perm_middle))
/-- A frame's page is closed. -/
theorem pagesIn_clear : ∀ {ws : List Int} {f : Nat}, f < ws.length → 0 < ws.getD f 0 → ((ws.getD f 0 - 1) :: pagesIn (ws.set f 0)).Perm (pagesIn ws)
  | [], _, h, _ => by simp at h
  | y :: ws, 0, _, h0 => by
    have h0 : 0 < y := h0
    show ((y - 1) :: pagesIn (0 :: ws)).Perm _
    rw [pagesIn_cons, pagesIn_cons, if_pos h0, if_neg (by omega)]
    exact List.Perm.refl _
  | y :: ws, f + 1, h, h0 => by
    have ih := pagesIn_clear (ws := ws) (f := f) (by simpa using h) h0
    show ((ws.getD f 0 - 1) :: pagesIn (y :: ws.set f 0)).Perm _
    rw [pagesIn_cons, pagesIn_cons]
    exact (List.perm_middle.symm.trans (ih.append_left _))
/-- The pages rise. -/
def Up (os : List OneM) : Prop := os.Pairwise (fun a b => a.page < b.page)
theorem up_ins : ∀ {os : List OneM} {x : OneM}, Up os → (∀ o ∈ os, o.page ≠ x.page) → Up (insO os x) ∧ ∀ o, o ∈ insO os x ↔ o = x ∨ o ∈ os
  | [], x, _, _ => ⟨List.pairwise_singleton _ _, fun o => by simp [insO]⟩
  | y :: os, x, h, hn => by
    have h := List.pairwise_cons.1 h
    unfold insO
    by_cases hy : x.page < y.page
    · rw [if_pos hy]
      refine ⟨List.pairwise_cons.2 ⟨fun o ho => ?_, List.pairwise_cons.2 h⟩, fun o => by simp⟩
      rcases List.mem_cons.1 ho with rfl | ho
      · exact hy
      · have := h.1 o ho; omega
    · rw [if_neg hy]
      obtain ⟨h1, h2⟩ := up_ins (x := x) h.2 (fun o ho => hn o (List.mem_cons_of_mem _ ho))
      refine ⟨List.pairwise_cons.2 ⟨fun o ho => ?_, h1⟩, fun o => ?_⟩
      · rcases (h2 o).1 ho with rfl | ho
        · have := hn y (List.mem_cons_self ..); omega
        · exact h.1 o ho
      · rw [List.mem_cons, List.mem_cons, h2]
        constructor
        · rintro (h | h | h)
          · exact .inr (.inl h)
          · exact .inl h
          · exact .inr (.inr h)
        · rintro (h | h | h)
          · exact .inr (.inl h)
          · exact .inl h
          · exact .inr (.inr h)
theorem ins_perm : ∀ (os : List OneM) (x : OneM), (insO os x).Perm (x :: os)
  | [], _ => List.Perm.refl _
  | y :: os, x => by
    unfold insO
    split
    · exact List.Perm.refl _
    · exact ((ins_perm os x).cons y).trans (List.Perm.swap x y os)
theorem rise_tail {a : Int} {l : List Int} (h : Rise (a :: l) (a :: l).length) : Rise l l.length ∧ ∀ b ∈ l, a ≤ b := by
  refine ⟨fun p q h1 h2 => h (p + 1) (q + 1) (by omega) (by simpa using h2), fun b hb => ?_⟩
  obtain ⟨j, hj⟩ := List.mem_iff_getElem?.1 hb
  have hl := (List.getElem?_eq_some_iff.1 hj).1
  have := h 0 (j + 1) (by omega) (by simpa using hl)
  have e : (a :: l).getD (j + 1) 0 = b := by rw [List.getD_eq_getElem?_getD]; show (l[j]?).getD 0 = b; rw [hj]; rfl
  rw [e] at this
  exact this
/-- What is sorted is what rises. -/
theorem rise_eq : ∀ {m l : List Int}, m.Perm l → Rise m m.length → l.Pairwise (· < ·) → m = l
  | [], l, hp, _, _ => hp.nil_eq
  | a :: m, [], hp, _, _ => by have := hp.length_eq; simp at this
  | a :: m, b :: l, hp, hr, hl => by
    obtain ⟨hr1, hr2⟩ := rise_tail hr
    have hl2 := List.pairwise_cons.1 hl
    have hab : a = b := by
      have h1 : b ∈ a :: m := hp.mem_iff.2 (List.mem_cons_self ..)
      have h2 : a ∈ b :: l := hp.mem_iff.1 (List.mem_cons_self ..)
      rcases List.mem_cons.1 h1 with h1 | h1
      · exact h1.symm
      · rcases List.mem_cons.1 h2 with h2 | h2
        · exact h2
        · have := hr2 b h1
          have := hl2.1 a h2
          omega
    subst hab
    rw [rise_eq (List.Perm.cons_inv hp) hr1 hl2.2]
/-- The program's pages are the document's. -/
structure Rel12 (x : BufM) (os : List OneM) : Prop where
  ok : BufOk x
  pm : (pagesIn x.hr.ws).Perm (os.map OneM.page)
  up : Up os
  pg : ∀ o ∈ os, 0 ≤ o.page ∧ o.page ≤ 9223372036854775807 ∧ x.hr.ws.getD (x.frame o.page).toNat 0 = o.page + 1
  wd : ∀ o ∈ os, o.l = (x.wr.ws.drop (x.frame o.page * sizeZ x.bits).toNat).take (sizeZ x.bits).toNat
  fm : ∀ f, f < x.hr.ws.length → x.hr.ws.getD f 0 = 0 ∨ ∃ o ∈ os, (x.frame o.page).toNat = f ∧ x.hr.ws.getD f 0 = o.page + 1
section
variable {x : BufM} {os : List OneM} (h : Rel12 x os)
include h
theorem Rel12.len : os.length ≤ x.hr.ws.length ∧ os.length ≤ 8 := by
  have h1 := h.pm.length_eq
  rw [List.length_map] at h1
  have h2 := pagesIn_length x.hr.ws
  have h3 := h.ok.few
  omega
theorem Rel12.hr {p : Int} : x.hr.load (x.frame p) = x.hr.ws.getD (x.frame p).toNat 0 := by
  have := frame_bnd h.ok p
  rw [RowM.load, if_pos (by omega)]
theorem Rel12.has {p : Int} : x.has p ↔ ∃ o ∈ os, o.page = p := by
  have hf := frame_bnd h.ok p
  constructor
  · rintro ⟨h0, h1⟩
    rw [h.hr] at h1
    rcases h.fm (x.frame p).toNat (by omega) with h2 | ⟨o, ho, _, h3⟩
    · omega
    · exact ⟨o, ho, by omega⟩
  · rintro ⟨o, ho, rfl⟩
    obtain ⟨h0, _, h2⟩ := h.pg o ho
    exact ⟨h0, by rw [h.hr]; exact h2⟩
theorem Rel12.at_ {p : Int} : 0 ≤ atZ os p ↔ x.has p := by
  rw [h.has]
  unfold atZ
  cases ha : atN os p with
  | none =>
    refine ⟨fun e => absurd e (by show ¬ (0 : Int) ≤ -1; decide), fun ⟨o, ho, e⟩ => absurd e (at_no ha o ho)⟩
  | some i =>
    obtain ⟨o, ho, hp⟩ := at_get ha
    exact ⟨fun _ => ⟨o, List.mem_of_getElem? ho, hp⟩, fun _ => by show (0 : Int) ≤ (i : Int); omega⟩
theorem Rel12.sorted {m : List Int} (hm : m.Perm (pagesIn x.hr.ws)) (hr : Rise m m.length) : m = os.map OneM.page :=
  rise_eq (hm.trans h.pm) hr (List.pairwise_map.2 h.up)
end
end Go.Proofs.Ytfchenbihepjaaa
