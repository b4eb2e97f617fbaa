/- HX, part R: rows of arrays of whole numbers; rows of rows. -/
import Derived.Test.YtjoicobfjpaepaaHxQ
namespace Go.HX
open Go Go.RowKit
section
variable {P : Program} {fn : FuncId} {N : Nat} {e : Env} {w w' : World} {Q : Value → World → Prop} {k : List XI} {l : List XOp}
variable {S : SP} {G G' : List HProp} {x y : Operand}
/-- A whole number in a row of arrays of such. -/
theorem g_ldN {n b o q i len cap : Nat} {kd : IntKind} {xs : List Int} (hx : Env.val e x = some (.pointer (some ⟨b, q, none⟩))) (h : RdS w n (.slice (some ⟨b, o, none⟩) len cap) (ints kd xs)) (hq : q = o + i) (hi : i < xs.length) :
    Gives P N (.ld x none) e w (.int kd (xs.getD i 0)) := by
  subst hq
  exact g_ld hx (h.cell (ints_get hi))
/-- The same, written. -/
theorem d_stN {E : TypeId} {n b q i len cap : Nat} {kd : IntKind} {xs : List Int} {y : Int} {v : Operand} (hx : Env.val e x = some (.pointer (some ⟨b, q, none⟩))) (hv : Env.val e v = some (.int kd y))
    (h : Sat S w (ownS E n (.slice (some ⟨b, 0, none⟩) len cap) (ints kd xs) :: G)) (hq : q = i) (hi : i < xs.length) (hl : 0 < len) :
    Does P N (.st x v 1) e w (fun v' w' => v' = undef ∧ Sat S w' (ownS E n (.slice (some ⟨b, 0, none⟩) len cap) (ints kd (xs.set i y)) :: G)) := by
  subst hq
  obtain ⟨b', spare, he, h1, h2, h3, h4, h5⟩ := ownS_open h hl
  simp at he
  subst he
  rw [ints_length] at h1
  refine (d_st (o := q) hx hv rfl h5 (by simp [ints_length]; omega)).mono ?_
  rintro v' w' ⟨rfl, h6⟩
  refine ⟨rfl, ownS_shut (spare := spare) ?_ (by rw [ints_length, List.length_set]; exact h1) h2 h3 h4⟩
  have : (ints kd xs ++ spare).toArray.setIfInBounds q (.int kd y) = (ints kd (xs.set q y) ++ spare).toArray := by
    rw [List.setIfInBounds_toArray, List.set_append_left _ _ (by rw [ints_length]; exact hi)]
    simp [ints, List.map_set]
  rw [this] at h6
  exact h6
theorem zeros_intsN (kd : IntKind) (n c : Nat) : zerosA (List.replicate n (Value.int kd 0)) c = ints kd (List.replicate (c * n) 0) := by
  unfold zerosA ints
  rw [List.map_replicate]
  induction c with
  | zero => simp
  | succ c ih =>
    rw [List.range_succ, List.flatMap_append, ih, Nat.succ_mul, ← List.replicate_append_replicate]
    simp
theorem d_mkN {E : TypeId} {by' sz : Nat} {kd : IntKind} {lo : Operand} {n : Nat} {k1 : IntKind} {z : List Value} (hl : Env.val e lo = some (.int k1 (n : Int))) (hz : z = List.replicate sz (.int kd 0)) (hs : 0 < sz) (hb : n * by' ≤ 281474976710656) (hn63 : n ≤ 9223372036854775807)
    (h : Sat S w G) : Does P N (.mks E sz by' z lo lo) e w (fun v w' => Sat S w' (ownS E sz v (ints kd (List.replicate (n * sz) 0)) :: G)) := by
  subst hz
  refine (d_mks hl hl (by omega) (Int.le_refl _) (by omega) (by omega) (by intro h0; have := congrArg List.length h0; simp at this; omega) (by simp) h).mono ?_
  rintro _ w' ⟨b, rfl, h⟩
  have h2 := ownS_made (len := n) (cap := n) (z := List.replicate sz (Value.int kd 0)) (n := sz) (by simpa using h) (by simp) (Nat.le_refl _) (by unfold maxLen; omega)
  rw [zeros_intsN] at h2
  simpa using h2
theorem gMk {E : TypeId} {s b : Nat} {z : List Value} {lo hi : Operand} {dst : Option Nat} {g : Option (Nat × Bool)} (h : XOps P fn N (⟨dst, g, .mks E s b z lo hi⟩ :: l) k e w Q) : XOps P fn N (⟨dst, g, .mks E s b z lo hi⟩ :: l) k e w Q := h
theorem gMkR {es : List (List Nat)} {B : List Nat} {ws m : Nat} {R : Rec} {todo : List (Nat × XOp)} {i0 : Nat} {E : TypeId} {s b : Nat} {z : List Value} {lo hi : Operand} {dst : Option Nat} {g : Option (Nat × Bool)} (h : XDr P fn N es B ws R ((i0, ⟨dst, g, .mks E s b z lo hi⟩) :: todo) m k e w Q) : XDr P fn N es B ws R ((i0, ⟨dst, g, .mks E s b z lo hi⟩) :: todo) m k e w Q := h
/-- make of a row of arrays of whole numbers. -/
theorem p_mkN {E : TypeId} {by' sz : Nat} {kd : IntKind} {lo : Operand} {n : Nat} {k1 : IntKind} {z : List Value} {dst : Option Nat} {g : Option (Nat × Bool)} (hg : wantedE e g = some true) (hl : Env.val e lo = some (.int k1 (n : Int))) (hz : z = List.replicate sz (.int kd 0)) (hs : 0 < sz) (hb : n * by' ≤ 281474976710656) (hn63 : n ≤ 9223372036854775807)
    (h : Sat S w G) (hn : ∀ v w', Sat S w' (ownS E sz v (ints kd (List.replicate (n * sz) 0)) :: G) → XOps P fn N l k (Env.put e dst v) w' Q) : XOps P fn N (⟨dst, g, .mks E sz by' z lo lo⟩ :: l) k e w Q := by
  subst hz
  refine p_do hg (d_mks hl hl (by omega) (Int.le_refl _) (by omega) (by omega) (by intro h0; have := congrArg List.length h0; simp at this; omega) (by simp) h) ?_
  rintro _ w' ⟨b, rfl, h⟩
  have h2 := ownS_made (len := n) (cap := n) (z := List.replicate sz (Value.int kd 0)) (n := sz) (by simpa using h) (by simp) (Nat.le_refl _) (by unfold maxLen; omega)
  rw [zeros_intsN] at h2
  simpa using hn _ _ h2
/-- What make gives of a row of whatever. -/
theorem p_mkZ {E : TypeId} {by' sz : Nat} {lo : Operand} {n : Nat} {k1 : IntKind} {z : List Value} {dst : Option Nat} {g : Option (Nat × Bool)} (hg : wantedE e g = some true) (hl : Env.val e lo = some (.int k1 (n : Int))) (hz : z.length = sz) (hs : 0 < sz) (hb : n * by' ≤ 281474976710656) (hn63 : n ≤ 9223372036854775807)
    (h : Sat S w G) (hn : ∀ v w', Sat S w' (ownS E sz v (zerosA z n) :: G) → XOps P fn N l k (Env.put e dst v) w' Q) : XOps P fn N (⟨dst, g, .mks E sz by' z lo lo⟩ :: l) k e w Q := by
  refine p_do hg (d_mks hl hl (by omega) (Int.le_refl _) (by omega) (by omega) (by intro h0; subst h0; simp at hz; omega) hz.symm h) ?_
  rintro _ w' ⟨b, rfl, h⟩
  have h2 := ownS_made (len := n) (cap := n) (z := z) (n := sz) (by simpa using h) hz (Nat.le_refl _) (by unfold maxLen; omega)
  simpa using hn _ _ h2
/-- Whatever stands in a row. -/
theorem g_ldV {n b o q i len cap : Nat} {cs : List Value} {u : Value} (hx : Env.val e x = some (.pointer (some ⟨b, q, none⟩))) (h : RdS w n (.slice (some ⟨b, o, none⟩) len cap) cs) (hq : q = o + i) (hi : cs[i]? = some u) : Gives P N (.ld x none) e w u := by
  subst hq
  exact g_ld hx (h.cell hi)
theorem d_stV {E : TypeId} {b q i len cap : Nat} {cs : List Value} {u : Value} {v : Operand} (hx : Env.val e x = some (.pointer (some ⟨b, q, none⟩))) (hv : Env.val e v = some u) (hu : u.oneCell' = true)
    (h : Sat S w (ownS E 1 (.slice (some ⟨b, 0, none⟩) len cap) cs :: G)) (hq : q = i) (hi : i < cs.length) :
    Does P N (.st x v 1) e w (fun v' w' => v' = undef ∧ Sat S w' (ownS E 1 (.slice (some ⟨b, 0, none⟩) len cap) (cs.set i u) :: G)) := by
  subst hq
  obtain ⟨b', spare, he, h1, h2, h3, h4, h5⟩ := ownS_open h (by have := (ownS_rd h .here).len.1; omega)
  simp at he
  subst he
  refine (d_st (o := q) hx hv hu h5 (by simp; omega)).mono ?_
  rintro v' w' ⟨rfl, h6⟩
  refine ⟨rfl, ownS_shut (spare := spare) ?_ (by rw [List.length_set]; exact h1) h2 h3 h4⟩
  have : (cs ++ spare).toArray.setIfInBounds q u = (cs.set q u ++ spare).toArray := by
    rw [List.setIfInBounds_toArray, List.set_append_left _ _ hi]
  rw [this] at h6
  exact h6
/-- A sum of ints, wrapped. -/
theorem g_addW_i {t : TypeId} {a b : Int} (hx : Env.val e x = some (.int .i64 a)) (hy : Env.val e y = some (.int .i64 b)) : Gives P N (.bin .add t x y) e w (.int .i64 (IntKind.i64.wrap (a + b))) :=
  bin_run hx hy (by simp) (fun w => rfl)
/-! ### rows of rows -/
/-- Rows that each own their block: of each the slice, and what is in it. -/
def ownAll (E : TypeId) (n : Nat) : List Value → List (List Value) → HProp
  | [], [] => emp
  | v :: vs, c :: cs => sep (ownS E n v c) (ownAll E n vs cs)
  | _, _ => hpure False emp
theorem ownAll_len {E : TypeId} {n : Nat} : ∀ {vs : List Value} {cs : List (List Value)} {G : List HProp}, Sat S w (ownAll E n vs cs :: G) → vs.length = cs.length
  | [], [], _, _ => rfl
  | v :: vs, c :: cs, _, h => by
    have h2 : Sat S w (ownS E n v c :: ownAll E n vs cs :: _) := Sat_sep.1 h
    have := ownAll_len h2.drop
    simp [this]
  | [], _ :: _, _, h => by
    have := (Sat_pure.1 h).1
    exact this.elim
  | _ :: _, [], _, h => by
    have := (Sat_pure.1 h).1
    exact this.elim
/-- One of them is taken out. -/
theorem ownAll_take {E : TypeId} {n : Nat} : ∀ {vs : List Value} {cs : List (List Value)} {i : Nat} {v : Value} {c : List Value} {G : List HProp}, Sat S w (ownAll E n vs cs :: G) → vs[i]? = some v → cs[i]? = some c →
    Sat S w (ownS E n v c :: ownAll E n (vs.set i (.slice none 0 0)) (cs.set i []) :: G)
  | [], [], i, v, c, _, _, hv, _ => by simp at hv
  | v' :: vs, c' :: cs, i, v, c, G, h, hv, hc => by
    have h2 : Sat S w (ownS E n v' c' :: ownAll E n vs cs :: G) := Sat_sep.1 h
    cases i with
    | zero =>
      simp at hv hc
      subst hv hc
      simp only [List.set_cons_zero]
      have h3 := h2.pick (.there .here)
      have h4 : Sat S w (ownS E n (.slice none 0 0) [] :: ownAll E n vs cs :: ownS E n v' c' :: G) := ownS_none h3
      have h5 : Sat S w (ownAll E n (.slice none 0 0 :: vs) ([] :: cs) :: ownS E n v' c' :: G) := Sat_sep.2 h4
      exact h5.pick (.there .here)
    | succ i =>
      simp at hv hc
      have h3 := ownAll_take (h2.pick (.there .here)) hv hc
      simp only [List.set_cons_succ]
      have h4 : Sat S w (ownS E n v' c' :: ownAll E n (vs.set i (.slice none 0 0)) (cs.set i []) :: ownS E n v c :: G) := (h3.pick (.there .here)).pick (.there (.there .here))
      have h5 : Sat S w (ownAll E n (v' :: vs.set i (.slice none 0 0)) (c' :: cs.set i []) :: ownS E n v c :: G) := Sat_sep.2 h4
      exact h5.pick (.there .here)
  | [], _ :: _, _, _, _, _, h, _, _ => (Sat_pure.1 h).1.elim
  | _ :: _, [], _, _, _, _, h, _, _ => (Sat_pure.1 h).1.elim
/-- And put back. -/
theorem ownAll_put {E : TypeId} {n : Nat} : ∀ {vs : List Value} {cs : List (List Value)} {i : Nat} {v : Value} {c : List Value} {G : List HProp}, i < vs.length → i < cs.length →
    Sat S w (ownS E n v c :: ownAll E n (vs.set i (.slice none 0 0)) (cs.set i []) :: G) → Sat S w (ownAll E n (vs.set i v) (cs.set i c) :: G)
  | [], _, i, _, _, _, hi, _, _ => by simp at hi
  | _ :: _, [], i, _, _, _, _, hi, _ => by simp at hi
  | v' :: vs, c' :: cs, i, v, c, G, hi, hj, h => by
    cases i with
    | zero =>
      simp only [List.set_cons_zero] at h ⊢
      have h2 := h.pick (.there .here)
      have h3 : Sat S w (ownS E n (.slice none 0 0) [] :: ownAll E n vs cs :: ownS E n v c :: G) := Sat_sep.1 h2
      exact Sat_sep.2 (h3.drop.pick (.there .here))
    | succ i =>
      simp only [List.set_cons_succ] at h ⊢
      have h2 := h.pick (.there .here)
      have h3 : Sat S w (ownS E n v' c' :: ownAll E n (vs.set i (.slice none 0 0)) (cs.set i []) :: ownS E n v c :: G) := Sat_sep.1 h2
      have h4 := ownAll_put (by simpa using hi) (by simpa using hj) (h3.sub (.cons (.there (.there .here)) (.cons (.there .here) (.cons .here (.refl _)))))
      exact Sat_sep.2 (h4.pick (.there .here))
theorem ownAll_nils {E : TypeId} {n : Nat} (m : Nat) (h : Sat S w G) : Sat S w (ownAll E n (List.replicate m (.slice none 0 0)) (List.replicate m []) :: G) := by
  induction m with
  | zero => exact Sat_emp.2 h
  | succ m ih => exact Sat_sep.2 (ownS_none ih)
end
end Go.HX
