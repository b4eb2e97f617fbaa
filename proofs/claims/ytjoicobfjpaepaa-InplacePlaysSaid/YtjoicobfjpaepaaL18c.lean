/- Layer 18 (inplace): all who are at a record. -/
import Derived.Test.YtjoicobfjpaepaaL18b
namespace Go.Proofs.Ytjoicobfjpaepaa
open Go Go.HX
set_option maxRecDepth 4000
set_option maxHeartbeats 1000000
/-- Of each of a list a part of the heap. -/
def bigH {α : Type} (f : α → HProp) : List α → HProp
  | [] => emp
  | x :: xs => sep (f x) (bigH f xs)
section
variable {S : SP} {w : World} {G : List HProp} {α : Type} {f : α → HProp}

theorem bigH_take : ∀ {xs : List α} {i : Nat} {x : α} {G : List HProp}, xs[i]? = some x → Sat S w (bigH f xs :: G) → Sat S w (f x :: bigH f (xs.eraseIdx i) :: G)
  | [], _, _, _, hx, _ => by simp at hx
  | y :: ys, 0, x, G, hx, h => by
    simp only [List.getElem?_cons_zero, Option.some.injEq] at hx
    subst hx
    exact Sat_sep.1 h
  | y :: ys, i + 1, x, G, hx, h => by
    have h1 : Sat S w (f y :: bigH f ys :: G) := Sat_sep.1 h
    have h2 := bigH_take (G := f y :: G) (by simpa using hx) (h1.pick (.there .here))
    have h3 : Sat S w (f y :: bigH f (ys.eraseIdx i) :: f x :: G) := h2.sub (.cons (.there (.there .here)) (.cons (.there .here) (.cons .here (.refl _))))
    have h4 : Sat S w (bigH f ((y :: ys).eraseIdx (i + 1)) :: f x :: G) := Sat_sep.2 h3
    exact h4.pick (.there .here)
theorem bigH_put : ∀ {xs : List α} {i : Nat} {x : α} {G : List HProp}, i < xs.length → Sat S w (f x :: bigH f (xs.eraseIdx i) :: G) → Sat S w (bigH f (xs.set i x) :: G)
  | [], _, _, _, hx, _ => by simp at hx
  | y :: ys, 0, x, G, hx, h => Sat_sep.2 h
  | y :: ys, i + 1, x, G, hx, h => by
    have h1 : Sat S w (bigH f (y :: ys.eraseIdx i) :: f x :: G) := h.pick (.there .here)
    have h2 : Sat S w (f y :: bigH f (ys.eraseIdx i) :: f x :: G) := Sat_sep.1 h1
    have h3 : Sat S w (f x :: bigH f (ys.eraseIdx i) :: f y :: G) := h2.sub (.cons (.there (.there .here)) (.cons (.there .here) (.cons .here (.refl _))))
    have h4 := bigH_put (by simpa using hx) h3
    have h5 : Sat S w (f y :: bigH f (ys.set i x) :: G) := h4.pick (.there .here)
    exact Sat_sep.2 h5
theorem bigH_push : ∀ {xs : List α} {x : α} {G : List HProp}, Sat S w (f x :: bigH f xs :: G) → Sat S w (bigH f (xs ++ [x]) :: G)
  | [], _, _, h => Sat_sep.2 h
  | y :: ys, x, G, h => by
    have h1 : Sat S w (bigH f (y :: ys) :: f x :: G) := h.pick (.there .here)
    have h2 : Sat S w (f y :: bigH f ys :: f x :: G) := Sat_sep.1 h1
    have h3 : Sat S w (f x :: bigH f ys :: f y :: G) := h2.sub (.cons (.there (.there .here)) (.cons (.there .here) (.cons .here (.refl _))))
    have h4 := bigH_push h3
    have h5 : Sat S w (f y :: bigH f (ys ++ [x]) :: G) := h4.pick (.there .here)
    exact Sat_sep.2 h5
end
theorem map_set_same {α β : Type} {g : α → β} : ∀ {xs : List α} {i : Nat} {x x' : α}, xs[i]? = some x → g x' = g x → (xs.set i x').map g = xs.map g
  | [], _, _, _, h, _ => by simp at h
  | y :: ys, 0, x, x', h, e => by
    simp only [List.getElem?_cons_zero, Option.some.injEq] at h
    subst h
    simp [e]
  | y :: ys, i + 1, x, x', h, e => by
    have := map_set_same (g := g) (xs := ys) (i := i) (by simpa using h) e
    simp [this]
/-- One at a record: where they and the document's stand, what both are, as the document's stands in the heap. -/
structure ManM where
  rd : Bool
  rb : Nat
  mb : Nat
  y : WrM
  z : RdM
  u : Value
  l : List Int
  k : WkM
  kk : WkM
  ul : Value
  ug : Value
def wkC (k : WkM) (ul ug : Value) : List Value := [.bool k.reads, .bool k.adds, .int .u64 k.n, ul, .int .i64 k.mv, .bool k.done, .int .u64 k.seen, ug]
def celC (c : CelM) (v : Value) : List Value := [.bool c.locked, .int .u64 c.count, v]
def ManM.own (b : Nat) (x : ManM) : HProp := if x.rd = true then pt x.rb (.cells (rdC b x.z x.u).toArray T.inplace_Reader (0, 0)) else pt x.rb (.cells (wrC b x.y x.u).toArray T.inplace_Writer (0, 0))
def manH (b : Nat) (x : ManM) : HProp := sep (ManM.own b x) (sep (ownS T.uint64 1 x.u (ints .u64 x.l)) (sep (pt x.mb (.cells (wkC x.kk x.ul x.ug).toArray T.haycroftref18_Work (0, 0))) (sep (ownS T.uint64 1 x.ul (ints .u64 x.kk.l)) (ownS T.uint64 1 x.ug (ints .u64 x.kk.got)))))
def ManM.wP (x : ManM) : Value := if x.rd = true then .pointer none else .pointer (some ⟨x.rb, 0, none⟩)
def ManM.rP (x : ManM) : Value := if x.rd = true then .pointer (some ⟨x.rb, 0, none⟩) else .pointer none
def ManM.mP (x : ManM) : Value := .pointer (some ⟨x.mb, 0, none⟩)
/-- Who is at it stands as the document says. -/
structure Man (x : ManM) (c : CelM) (n : Nat) : Prop where
  kr : x.k.reads = x.rd
  kkr : x.kk.reads = x.rd
  kkn : x.kk.n = x.k.n
  rd : x.rd = true → IsRd x.z x.l x.k c n
  wr : x.rd = false → IsWr x.y x.l x.k c n
structure Scn (xs : List ManM) (c : CelM) (n : Nat) : Prop where
  man : ∀ (i : Nat) (x : ManM), xs[i]? = some x → Man x c n
  one : ∀ (i j : Nat) (x y : ManM), xs[i]? = some x → xs[j]? = some y → x.k.holds → y.k.holds → i = j
  who : c.locked = true → ∃ (i : Nat) (x : ManM), xs[i]? = some x ∧ x.k.holds
theorem holds_lock {x : ManM} {c : CelM} {n : Nat} (h : Man x c n) (hh : x.k.holds) : c.locked = true := by
  have hr : x.rd = false := by rw [← h.kr]; exact hh.1
  exact ((h.wr hr).held hh.2.2 hh.2.1).1
theorem move_len (k : WkM) (c : CelM) : (k.move c).2.2.l.length = c.l.length := by
  unfold WkM.move WkM.rd WkM.wr
  repeat' split
  all_goals simp
theorem move_same {k : WkM} {c : CelM} (hl : c.locked = true) (hh : ¬ k.holds) : (k.move c).2.2 = c := by
  unfold WkM.move WkM.rd WkM.wr
  by_cases hd : k.done = true
  · rw [if_pos hd]
  · rw [if_neg hd]
    by_cases hr : k.reads = true
    · rw [if_pos hr]
      repeat' split
      all_goals rfl
    · rw [if_neg hr]
      have hm : k.mv = 0 := by
        have : ¬ 0 < k.mv := fun e => hh ⟨by simpa using hr, e, by simpa using hd⟩
        omega
      rw [if_pos hm, if_pos hl]
theorem move_reads (k : WkM) (c : CelM) : (k.move c).2.1.reads = k.reads ∧ (k.move c).2.1.adds = k.adds ∧ (k.move c).2.1.n = k.n := by
  unfold WkM.move WkM.rd WkM.wr
  repeat' split
  all_goals exact ⟨rfl, rfl, rfl⟩
/-- Who moves to hold held, or nobody did. -/
theorem move_holds {k : WkM} {c : CelM} (hh : (k.move c).2.1.holds) : k.holds ∨ (c.locked = false ∧ (k.move c).2.2.locked = true) := by
  obtain ⟨h1, h2, h3⟩ := hh
  rw [(move_reads k c).1] at h1
  have hr : ¬ k.reads = true := by rw [h1]; decide
  unfold WkM.move WkM.wr at *
  by_cases hd : k.done = true
  · rw [if_pos hd] at h3; rw [hd] at h3; simp at h3
  · rw [if_neg hd, if_neg hr] at h2 h3 ⊢
    by_cases hm : k.mv = 0
    · rw [if_pos hm] at h2 ⊢
      by_cases hl : c.locked = true
      · rw [if_pos hl] at h2; simp only at h2; omega
      · right; rw [if_neg hl]; exact ⟨by simpa using hl, rfl⟩
    · left; exact ⟨h1, by omega, by simpa using hd⟩
/-- Who stays locked is held. -/
theorem move_locked {k : WkM} {c : CelM} (hl : (k.move c).2.2.locked = true) : (c.locked = true ∧ (k.holds → (k.move c).2.1.holds)) ∨ (k.move c).2.1.holds := by
  unfold WkM.move WkM.rd WkM.wr at *
  by_cases hd : k.done = true
  · rw [if_pos hd] at hl ⊢; left; exact ⟨hl, fun hh => hh⟩
  · rw [if_neg hd] at hl ⊢
    by_cases hr : k.reads = true
    · rw [if_pos hr] at hl ⊢
      left
      refine ⟨?_, fun hh => absurd hh.1 (by rw [hr]; decide)⟩
      revert hl
      repeat' split
      all_goals exact fun hl => hl
    · rw [if_neg hr] at hl ⊢
      by_cases hm : k.mv = 0
      · rw [if_pos hm] at hl ⊢
        by_cases hc : c.locked = true
        · rw [if_pos hc] at hl ⊢; left; exact ⟨hc, fun hh => hh⟩
        · rw [if_neg hc] at hl ⊢; right; exact ⟨by simpa using hr, by simp, by simpa using hd⟩
      · rw [if_neg hm] at hl ⊢
        right
        by_cases ha : k.adds = true ∧ k.mv = 1
        · rw [if_pos ha]; exact ⟨by simpa using hr, by simp, by simpa using hd⟩
        · rw [if_neg ha] at hl ⊢
          by_cases h2 : k.at_ < k.l.length
          · rw [if_pos h2]; exact ⟨by simpa using hr, by simp, by simpa using hd⟩
          · rw [if_neg h2] at hl; simp at hl
/-- Another one stands as they stood. -/
theorem man_other {y : ManM} {c c' : CelM} {n : Nat} (h : Man y c n) (hl : c'.l.length = c.l.length) (hc : c' = c ∨ ¬ y.k.holds) : Man y c' n := by
  rcases hc with rfl | hn
  · exact h
  · refine ⟨h.kr, h.kkr, h.kkn, fun hr => ?_, fun hr => ?_⟩
    · have r := h.rd hr
      exact ⟨r.lock, r.val, by rw [hl]; exact r.words, r.num, r.rds, by rw [hl]; exact r.len, r.bnd, r.stD, r.empty, r.st0, by rw [hl]; exact r.st1⟩
    · have r := h.wr hr
      have hno : ∀ (hd : y.k.done = false) (hm : 1 ≤ y.k.mv), False := fun hd hm => hn ⟨by rw [h.kr]; exact hr, hm, hd⟩
      exact ⟨r.lock, r.val, by rw [hl]; exact r.words, r.add, r.num, r.rds, by rw [hl]; exact r.len, by rw [hl]; exact r.one, r.nb, r.bnd, r.tail, r.same, r.stD, r.st0, fun hd hm => (hno hd hm).elim, fun hd hm => (hno hd (by omega)).elim, fun hd hm => (hno hd hm).elim⟩
theorem getElem?_set_ne' {α : Type} {xs : List α} {i j : Nat} {x y : α} (hij : i ≠ j) (h : (xs.set i x)[j]? = some y) : xs[j]? = some y := by
  rwa [List.getElem?_set_ne hij] at h
theorem getElem?_set_eq' {α : Type} {xs : List α} {i : Nat} {x y : α} (h : (xs.set i x)[i]? = some y) : y = x := by
  rw [List.getElem?_set] at h
  simp at h
  exact h.2.symm
theorem scn_move {xs : List ManM} {c : CelM} {n i : Nat} {x x' : ManM} (h : Scn xs c n) (hx : xs[i]? = some x) (hk : x'.k = (x.k.move c).2.1) (hm : Man x' (x.k.move c).2.2 n) : Scn (xs.set i x') (x.k.move c).2.2 n := by
  have hi : i < xs.length := (List.getElem?_eq_some_iff.1 hx).1
  have hxx : (xs.set i x')[i]? = some x' := by rw [List.getElem?_set]; simp [hi]
  have hold : x'.k.holds → x.k.holds ∨ (c.locked = false ∧ (x.k.move c).2.2.locked = true) := by rw [hk]; exact move_holds
  refine ⟨fun j y hy => ?_, fun j1 j2 y1 y2 hy1 hy2 hh1 hh2 => ?_, fun hl => ?_⟩
  · by_cases hij : i = j
    · subst hij
      rw [getElem?_set_eq' hy]; exact hm
    · have hy := getElem?_set_ne' hij hy
      refine man_other (h.man j y hy) (move_len _ _) ?_
      by_cases hyh : y.k.holds
      · left
        refine move_same (holds_lock (h.man j y hy) hyh) (fun hxh => hij (h.one i j x y hx hy hxh hyh))
      · exact .inr hyh
  · have key : ∀ j y, i ≠ j → (xs.set i x')[j]? = some y → y.k.holds → x'.k.holds → False := fun j y hij hy hyh hxh => by
      have hy := getElem?_set_ne' hij hy
      rcases hold hxh with h1 | ⟨h1, _⟩
      · exact hij (h.one i j x y hx hy h1 hyh)
      · have := holds_lock (h.man j y hy) hyh
        rw [h1] at this; simp at this
    by_cases h1 : i = j1
    · subst h1
      have e1 := getElem?_set_eq' hy1
      subst e1
      by_cases h2 : i = j2
      · exact h2
      · exact (key j2 y2 h2 hy2 hh2 hh1).elim
    · by_cases h2 : i = j2
      · subst h2
        have e2 := getElem?_set_eq' hy2
        subst e2
        exact (key j1 y1 h1 hy1 hh1 hh2).elim
      · exact h.one j1 j2 y1 y2 (getElem?_set_ne' h1 hy1) (getElem?_set_ne' h2 hy2) hh1 hh2
  · rcases move_locked hl with ⟨hc, himp⟩ | hh
    · obtain ⟨j, y, hy, hyh⟩ := h.who hc
      by_cases hij : i = j
      · subst hij
        rw [hx] at hy
        cases hy
        exact ⟨i, x', hxx, by rw [hk]; exact himp hyh⟩
      · exact ⟨j, y, by rw [List.getElem?_set_ne hij]; exact hy, hyh⟩
    · exact ⟨i, x', hxx, by rw [hk]; exact hh⟩
end Go.Proofs.Ytjoicobfjpaepaa
