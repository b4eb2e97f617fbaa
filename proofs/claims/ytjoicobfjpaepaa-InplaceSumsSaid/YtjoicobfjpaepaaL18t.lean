/- Layer 18 (inplace): who moves last. -/
import Derived.Test.YtjoicobfjpaepaaP18o
import Derived.Test.YtjoicobfjpaepaaL18s
namespace Go.Proofs.Ytjoicobfjpaepaa
open Go Go.HX
set_option maxRecDepth 4000
set_option maxHeartbeats 1000000
theorem rep_flat {α : Type} (u : α) : ∀ n : Nat, (List.range n).flatMap (fun _ => [u]) = List.replicate n u
  | 0 => rfl
  | n + 1 => by rw [List.range_succ, List.flatMap_append, rep_flat u n, List.replicate_succ']; rfl
section
variable {P : Program} {fn : FuncId} {N : Nat} {e : Env} {Q : Value → World → Prop} {k : List XI} {l : List XOp}
variable {S : SP} {w : World} {G : List HProp}
theorem bigH_back {α : Type} {f : α → HProp} {xs : List α} {i : Nat} {x : α} (hx : xs[i]? = some x) (h : Sat S w (f x :: bigH f (xs.eraseIdx i) :: G)) : Sat S w (bigH f xs :: G) := by
  obtain ⟨hi, he⟩ := List.getElem?_eq_some_iff.1 hx
  have := bigH_put hi h
  rwa [← he, List.set_getElem_self] at this
/-- make of a row of one value. -/
theorem d_mk1 {E : TypeId} {by' : Nat} {lo : Operand} {n : Nat} {k1 : IntKind} {u : Value} (hl : Env.val e lo = some (.int k1 (n : Int))) (hb : n * by' ≤ 281474976710656) (hn63 : n ≤ 9223372036854775807)
    (h : Sat S w G) : Does P N (.mks E 1 by' [u] lo lo) e w (fun v w' => Sat S w' (ownS E 1 v (List.replicate n u) :: G)) := by
  refine (d_mks hl hl (by omega) (Int.le_refl _) (by omega) (by omega) (by simp) (by simp) h).mono ?_
  rintro _ w' ⟨b, rfl, h⟩
  have h2 := ownS_made (len := n) (cap := n) (z := [u]) (n := 1) (by simpa using h) (by simp) (Nat.le_refl _) (by unfold maxLen; omega)
  have e : zerosA [u] n = List.replicate n u := by
    show (List.range n).flatMap (fun _ => [u]) = List.replicate n u
    exact rep_flat u n
  rw [e] at h2
  simpa using h2
end
def Adds18 (l : List Wk18) : Prop := ∀ a ∈ l, wk18Ok a ∧ a.kind ≠ 1
theorem adds18_push {l : List Wk18} {a : Wk18} (h : Adds18 l) (ha : wk18Ok a ∧ a.kind ≠ 1) : Adds18 (l ++ [a]) := fun b hb => by
  rcases List.mem_append.1 hb with hb | hb
  · exact h b hb
  · rw [List.mem_singleton.1 hb]; exact ha
theorem sums_begin {l : List Wk18} {xs : List ManM} {n : Int} (n0 : 0 ≤ n) (n1 : n ≤ 18446744073709551615) (hb : Begun xs ⟨false, 0, [n]⟩ 8 6) (hs : Sums l xs) (hl : Adds18 l) : SumI xs ⟨false, 0, [n]⟩ n := by
  have hno : ∀ (i : Nat) (x : ManM), xs[i]? = some x → ¬ x.k.holds := fun i x hx hh => by have := hh.2.1; rw [(hb.fresh i x hx).mv] at this; omega
  refine ⟨⟨n0, n1⟩, fun i x hx => ?_, fun i x hx hh => (hno i x hx hh).elim, fun i x hx hh => (hno i x hx hh).elim, fun i x hx hh => (hno i x hx hh).elim, fun _ => rfl⟩
  have hm := hb.scn.man i x hx
  cases hr : x.k.reads
  · right
    refine ⟨rfl, ?_⟩
    have := hs (fun a ha => (hl a ha).2) i x hx
    rw [hr] at this
    simpa using this
  · left
    exact ⟨rfl, (hb.fresh i x hx).rd (by rw [← hm.kr]; exact hr)⟩
def doneV (x : ManM) : Value := .bool x.k.done
/-- Where the last moves stand: who held is done; or all up to here are. -/
def Upto (t k : Nat) (xs : List ManM) : Prop := (t = 0 → ∀ (i : Nat) (x : ManM), i < k → xs[i]? = some x → ¬ x.k.holds) ∧ (1 ≤ t → (∀ (i : Nat) (x : ManM), xs[i]? = some x → ¬ x.k.holds) ∧ ∀ (i : Nat) (x : ManM), i < k → xs[i]? = some x → x.k.done = true)
theorem done_no {k : WkM} (h : k.done = true) : ¬ k.holds := fun hh => by have := hh.2.2; rw [h] at this; simp at this
theorem upto_next {t k : Nat} {xs : List ManM} {x : ManM} (h : Upto t k xs) (hx : xs[k]? = some x) (hd : x.k.done = true ∨ (t = 0 ∧ ¬ x.k.holds)) : Upto t (k + 1) xs := by
  refine ⟨fun ht i y hi hy => ?_, fun ht => ⟨(h.2 ht).1, fun i y hi hy => ?_⟩⟩
  · by_cases e : i = k
    · subst e; rw [hx] at hy; cases hy
      rcases hd with hd | hd
      · exact done_no hd
      · exact hd.2
    · exact h.1 ht i y (by omega) hy
  · by_cases e : i = k
    · subst e; rw [hx] at hy; cases hy
      rcases hd with hd | hd
      · exact hd
      · omega
    · exact (h.2 ht).2 i y (by omega) hy
theorem upto_set {t k : Nat} {xs : List ManM} {x' : ManM} (h : Upto t k xs) (hd : x'.k.done = true) : Upto t (k + 1) (xs.set k x') := by
  refine ⟨fun ht i y hi hy => ?_, fun ht => ⟨fun i y hy => ?_, fun i y hi hy => ?_⟩⟩
  · by_cases e : k = i
    · subst e; rw [getElem?_set_eq' hy]; exact done_no hd
    · exact h.1 ht i y (by omega) (getElem?_set_ne' e hy)
  · by_cases e : k = i
    · subst e; rw [getElem?_set_eq' hy]; exact done_no hd
    · exact (h.2 ht).1 i y (getElem?_set_ne' e hy)
  · by_cases e : k = i
    · subst e; rw [getElem?_set_eq' hy]; exact hd
    · exact (h.2 ht).2 i y (by omega) (getElem?_set_ne' e hy)
theorem upto_end {t : Nat} {xs : List ManM} (h : Upto t xs.length xs) (ht : t < 2) : Upto (t + 1) 0 xs ∧ (t + 1 = 2 → ∀ (i : Nat) (x : ManM), xs[i]? = some x → x.k.done = true) := by
  have hl : ∀ (i : Nat) (x : ManM), xs[i]? = some x → i < xs.length := fun i x hx => (List.getElem?_eq_some_iff.1 hx).1
  refine ⟨⟨fun he => by omega, fun _ => ⟨fun i x hx => ?_, fun i x hi => by omega⟩⟩, fun h2 i x hx => (h.2 (by omega)).2 i x (hl i x hx) hx⟩
  by_cases h0 : t = 0
  · exact h.1 h0 i x (hl i x hx) hx
  · exact (h.2 (by omega)).1 i x hx
theorem upto_zero (xs : List ManM) : Upto 0 0 xs := ⟨fun _ i x hi => by omega, fun h => by omega⟩
theorem done_move {k : WkM} {c : CelM} (h : k.done = true) : k.move c = (2, k, c) := by unfold WkM.move; rw [if_pos h]
theorem same_done {x : ManM} {c : CelM} (hd : (x.k.move c).1 = 2 ↔ (x.k.move c).2.1.done = true) (hv : ¬ (x.k.move c).1 = 2) : (x.k.move c).2.1.done = x.k.done := by
  have h1 : ¬ x.k.done = true := fun e => hv (by rw [done_move e])
  have h2 : ¬ (x.k.move c).2.1.done = true := fun e => hv (hd.2 e)
  rw [Bool.not_eq_true] at h1 h2
  rw [h1, h2]
theorem kept_trans {x y z : ManM} (h : Kept x y) (g : Kept y z) : Kept x z := ⟨g.rd.trans h.rd, g.rb.trans h.rb, g.mb.trans h.mb, g.kk.trans h.kk, g.ul.trans h.ul, g.ug.trans h.ug⟩
/-- One who moves alone: after j moves, of which the last told v. -/
def Alone (xs : List ManM) (k : Nat) (x0 : ManM) (s : Int) (j : Nat) (v : Int) (x' : ManM) (m : CelM) : Prop :=
  Kept x0 x' ∧ x'.k.n = x0.k.n ∧ Scn (xs.set k x') m 8 ∧ ((v = 2 ∧ x'.k.done = true ∧ SumI (xs.set k x') m ((s + x0.k.n) % 18446744073709551616)) ∨ (v ≠ 2 ∧ x'.k.done = false ∧ SumI (xs.set k x') m s ∧ remM x'.k m + j ≤ 6 ∧ (x'.k.holds ∨ m.locked = false)))
theorem alone_start {xs : List ManM} {k : Nat} {x0 : ManM} {s : Int} {m : CelM} (hx : xs[k]? = some x0) (hs : Scn xs m 8) (hu : SumI xs m s) (hd : x0.k.done = false) (hh : x0.k.holds ∨ m.locked = false) : Alone xs k x0 s 0 0 x0 m := by
  obtain ⟨hi, he⟩ := List.getElem?_eq_some_iff.1 hx
  have e : xs.set k x0 = xs := by rw [← he, List.set_getElem_self]
  refine ⟨⟨rfl, rfl, rfl, rfl, rfl, rfl⟩, rfl, by rw [e]; exact hs, .inr ⟨by decide, hd, by rw [e]; exact hu, by have := rem_le x0.k m; omega, hh⟩⟩
theorem alone_step {xs : List ManM} {k j : Nat} {x0 x' x'' : ManM} {s v : Int} {m : CelM} (hk : k < xs.length) (h : Alone xs k x0 s j v x' m) (hv : v ≠ 2) (hm : m.l.length = 1) (hkk : x''.k = (x'.k.move m).2.1) (hkp : Kept x' x'') (hmn : Man x'' (x'.k.move m).2.2 8) : Alone xs k x0 s (j + 1) (x'.k.move m).1 x'' (x'.k.move m).2.2 := by
  obtain ⟨h1, h2, h3, h4⟩ := h
  obtain ⟨_, hd, hu, hr, hh⟩ := h4.resolve_left (fun e => hv e.1)
  have hx : (xs.set k x')[k]? = some x' := by rw [List.getElem?_set]; simp [hk]
  have hs := scn_move h3 hx hkk hmn
  have hu' := sum_move h3 hu hm hx hkk
  rw [List.set_set] at hs hu'
  have hkd := hu.kind k x' hx
  have hlow := hu.low k x' hx
  refine ⟨kept_trans h1 hkp, by rw [hkk, (move_reads _ _).2.2]; exact h2, hs, ?_⟩
  rcases rem_move (h3.man k x' hx) hm hkd hd hlow hh with ⟨e1, e2⟩ | ⟨e1, e2, e3, e4⟩
  · left
    refine ⟨e1, by rw [hkk]; exact e2, ?_⟩
    unfold sumN at hu'
    rw [if_pos ⟨e1, hd⟩, h2] at hu'
    exact hu'
  · right
    unfold sumN at hu'
    rw [if_neg (fun e => e1 e.1)] at hu'
    exact ⟨e1, by rw [hkk]; exact e2, hu', by rw [hkk]; omega, by rw [hkk]; exact e4⟩
end Go.Proofs.Ytjoicobfjpaepaa
