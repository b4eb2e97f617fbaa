/- Layer 33 (grow): an index that is filled, entry by entry. -/
import Derived.Test.YtmlkeackapflhaaL33b
namespace Go.Proofs.Ytmlkeackapflhaa
open Go Go.HX
set_option maxRecDepth 4000
set_option maxHeartbeats 1000000
def toldD (n : Nat) (D : List (Nat × EntM)) (g : Int) : Option Int := D.foldl (fun o p => if bucketZ g n = (p.1 : Int) ∧ tagZ g = p.2.tag then some p.2.addr else o) none
def cntD (D : List (Nat × EntM)) (b : Nat) : Nat := (D.filter (fun p => decide (p.1 = b))).length
def needD (n : Nat) (D : List (Nat × EntM)) : Nat := ((List.range n).map (fun b => (cntD D b - 1) / 7)).sum
structure Filled (n s : Nat) (D : List (Nat × EntM)) (y : IdxM) : Prop where
  nb : y.nb = n
  sp : y.sp = s
  ex : ∃ Cs, Forest y Cs ∧ (∀ g, toldV y g = toldD n D g) ∧ ∀ (b : Nat) (C : List Nat), Cs[b]? = some C → cntW y C = cntD D b ∧ C.length = 1 + (cntD D b - 1) / 7
/-- The rounds of a put that are still to come. -/
def Put0 (fin : IdxM → Prop) (h a : Int) (z : IdxM) : Prop := (∃ Cs, Forest z Cs) ∧ (lookV z h).kind = 1 ∧ fin (growX z h a)
def Put1 (fin : IdxM → Prop) (h a : Int) (z : IdxM) : Prop := (∃ Cs, Forest z Cs) ∧ (lookV z h).kind = 2 ∧ Put0 fin h a (growX z h a)
def Put2 (fin : IdxM → Prop) (h a : Int) (z : IdxM) : Prop := (∃ Cs, Forest z Cs) ∧ (lookV z h).kind = 3 ∧ z.taken < z.sp ∧ Put1 fin h a (growX z h a)
def PutP (fin : IdxM → Prop) (h a : Int) (st : Nat) (z : IdxM) : Prop := (st = 0 ∧ Put0 fin h a z) ∨ (st = 1 ∧ Put1 fin h a z) ∨ (st = 2 ∧ Put2 fin h a z)
theorem toldD_snoc (n : Nat) (D : List (Nat × EntM)) (p : Nat × EntM) (g : Int) : toldD n (D ++ [p]) g = if bucketZ g n = (p.1 : Int) ∧ tagZ g = p.2.tag then some p.2.addr else toldD n D g := by
  unfold toldD
  rw [List.foldl_append]
  rfl
theorem cntD_snoc (D : List (Nat × EntM)) (p : Nat × EntM) (b : Nat) : cntD (D ++ [p]) b = cntD D b + if b = p.1 then 1 else 0 := by
  unfold cntD
  rw [List.filter_append, List.length_append]
  by_cases hb : b = p.1
  · subst hb; simp
  · rw [if_neg hb, List.filter_cons_of_neg (by simpa using fun e => hb e.symm)]
    rfl
theorem sum_upd {f f' : Nat → Nat} {b : Nat} : ∀ {n : Nat}, b < n → (∀ i, i ≠ b → f' i = f i) → ((List.range n).map f').sum + f b = ((List.range n).map f).sum + f' b
  | 0, hb, _ => by omega
  | n + 1, hb, he => by
    rw [List.range_succ, List.map_append, List.map_append, List.sum_append, List.sum_append]
    simp only [List.map_cons, List.map_nil, List.sum_cons, List.sum_nil]
    by_cases hn : b < n
    · have := sum_upd hn he
      rw [he n (by omega)]
      omega
    · obtain rfl : b = n := by omega
      have : (List.range b).map f' = (List.range b).map f := List.map_congr_left (fun i hi => he i (by have := List.mem_range.1 hi; omega))
      rw [this]
      omega
theorem sums_le {f f' : Nat → Nat} (he : ∀ i, f i ≤ f' i) : ∀ n : Nat, ((List.range n).map f).sum ≤ ((List.range n).map f').sum
  | 0 => by simp
  | n + 1 => by
    rw [List.range_succ, List.map_append, List.map_append, List.sum_append, List.sum_append]
    simp only [List.map_cons, List.map_nil, List.sum_cons, List.sum_nil]
    have := sums_le he n
    have := he n
    omega
theorem needD_mono (n : Nat) (D R : List (Nat × EntM)) : needD n D ≤ needD n (D ++ R) := by
  refine sums_le (fun i => ?_) n
  have : cntD D i ≤ cntD (D ++ R) i := by unfold cntD; rw [List.filter_append, List.length_append]; omega
  omega
theorem lens_sum {x : IdxM} {Cs : List (List Nat)} (h : Forest x Cs) : (Cs.map List.length).sum = x.nb + x.taken := by
  rw [← List.length_flatten]
  have hp : Cs.flatten.Perm (List.range (x.nb + x.taken)) := (List.perm_ext_iff_of_nodup h.ch.nd List.nodup_range).2 (fun a => by rw [h.ch.cov, List.mem_range])
  rw [hp.length_eq, List.length_range]
theorem map_range_get {α : Type} {Cs : List α} {f : α → Nat} {g : Nat → Nat} : ∀ {n : Nat}, Cs.length = n → (∀ (b : Nat) (C : α), Cs[b]? = some C → f C = g b) → Cs.map f = (List.range n).map g := by
  intro n hn he
  apply List.ext_getElem?
  intro i
  rw [List.getElem?_map, List.getElem?_map]
  by_cases hi : i < n
  · rw [List.getElem?_eq_getElem (by omega), List.getElem?_range hi]
    simp only [Option.map_some]
    rw [he i _ (List.getElem?_eq_getElem (by omega))]
  · rw [List.getElem?_eq_none (by omega), List.getElem?_eq_none (by simp; omega)]
    rfl
theorem sum_one (f : Nat → Nat) : ∀ n : Nat, ((List.range n).map (fun b => 1 + f b)).sum = n + ((List.range n).map f).sum
  | 0 => by simp
  | n + 1 => by
    rw [List.range_succ, List.map_append, List.map_append, List.sum_append, List.sum_append, sum_one f n]
    simp only [List.map_cons, List.map_nil, List.sum_cons, List.sum_nil]
    omega
theorem Filled.taken {n s : Nat} {D : List (Nat × EntM)} {y : IdxM} (h : Filled n s D y) : y.taken = needD n D := by
  obtain ⟨Cs, hF, _, hc⟩ := h.ex
  have h1 := lens_sum hF
  rw [map_range_get (g := fun b => 1 + (cntD D b - 1) / 7) hF.ch.len (fun b C hC => (hc b C hC).2), sum_one, h.nb] at h1
  unfold needD
  omega
theorem number_in {t : Int} {b : Nat} {n : Nat} (hn : mayN n) (hb : b < n) : bucketZ (t * 1125899906842624 + b) n = b ∧ tagZ (t * 1125899906842624 + b) = t := by
  have hm := mayN_le hn
  refine ⟨?_, by unfold tagZ; omega⟩
  rw [bucketZ, if_pos hn]
  rcases hn with e | e | e | e | e | e | e | e | e | e | e <;> rw [e] <;> omega
theorem filled_put {n s : Nat} {D : List (Nat × EntM)} {y : IdxM} (h : Filled n s D y) {b : Nat} {e : EntM} (hb : b < n) (a1 : 1 ≤ e.addr) (a2 : e.addr ≤ 281474976710655) (t0 : 0 ≤ e.tag) (t1 : e.tag ≤ 16383)
    (hnew : ∀ p ∈ D, ¬ (p.1 = b ∧ p.2.tag = e.tag)) (hs : needD n (D ++ [(b, e)]) ≤ s) : ∃ st, PutP (Filled n s (D ++ [(b, e)])) (e.tag * 1125899906842624 + b) e.addr st y := by
  have htk := h.taken
  obtain ⟨hnb, hsp, Cs, hF, htold, hc⟩ := h
  have hmay := hF.may
  rw [hnb] at hmay
  have hm := mayN_le hmay
  obtain ⟨nk1, nk2⟩ := number_in hmay hb
  have hh0 : 0 ≤ e.tag * 1125899906842624 + (b : Int) := by omega
  have hh1 : e.tag * 1125899906842624 + (b : Int) ≤ 18446744073709551615 := by omega
  generalize e.tag * 1125899906842624 + (b : Int) = hh at *
  have hnone : toldD n D hh = none := by
    unfold toldD
    have : ∀ (R : List (Nat × EntM)), (∀ p ∈ R, ¬ (p.1 = b ∧ p.2.tag = e.tag)) → R.foldl (fun o p => if bucketZ hh n = (p.1 : Int) ∧ tagZ hh = p.2.tag then some p.2.addr else o) none = none := fun R => by
      induction R with
      | nil => intro _; rfl
      | cons p R ih =>
        intro hp
        rw [List.foldl_cons, if_neg, ih (fun q hq => hp q (List.mem_cons_of_mem _ hq))]
        rintro ⟨h1, h2⟩
        exact hp p (by simp) ⟨by omega, by omega⟩
    exact this D hnew
  have hk1 : (lookV y hh).kind ≠ 1 := fun hk => by
    have := htold hh
    rw [hnone, toldV, if_pos hk] at this
    cases this
  obtain ⟨C, hC⟩ := hF.ch.get (show b < y.nb by omega)
  obtain ⟨hcb, hlb⟩ := hc b C hC
  have hcs := cntD_snoc D (b, e)
  have hle : ∀ (z : IdxM) (E : List Nat), cntW z E ≤ E.length * 7 := fun z E => by
    unfold cntW
    rw [← slotsG_length]
    exact List.length_filter_le _ _
  -- a claim, then a turn
  have two : ∀ (z : IdxM) (Ds : List (List Nat)) (E : List Nat), Forest z Ds → z.nb = n → z.sp = s → (lookV z hh).kind = 2 → Ds[b]? = some E → cntW z E = cntD D b → E.length = 1 + cntD D b / 7 → (∀ g, toldV z g = toldD n D g) → (∀ (b' : Nat) (C' : List Nat), b' ≠ b → Ds[b']? = some C' → cntW z C' = cntD D b' ∧ C'.length = 1 + (cntD D b' - 1) / 7) → Put1 (Filled n s (D ++ [(b, e)])) hh e.addr z := by
    intro z Ds E hz znb zsp zk hE zc zl zt zo
    obtain ⟨_, g2, g3, g4, g5, g6⟩ := grow_free hz hh0 hh1 e.addr zk
    obtain ⟨_, f2, f3, f4, f5⟩ := grow_found g2 g6 a1 a2
    refine ⟨⟨Ds, hz⟩, zk, ⟨Ds, g2⟩, g6, ⟨?_, ?_, Ds, f2, fun g => ?_, fun b' C' hC' => ?_⟩⟩
    · rw [(grow_nb _ _ _).1, (grow_nb _ _ _).1, znb]
    · rw [(grow_nb _ _ _).2, (grow_nb _ _ _).2, zsp]
    · rw [f4, g4, zt, toldD_snoc, (grow_nb _ _ _).1, znb, nk1, nk2]
      by_cases hx : bucketZ g n = (b : Int) ∧ tagZ g = e.tag
      · rw [if_pos hx, if_pos hx]
      · rw [if_neg hx, if_neg hx, if_neg hx]
    · rw [f5 C' (List.mem_of_getElem? hC'), g5 b' C' hC', hcs, znb, nk1]
      by_cases hbb : b' = b
      · subst hbb
        rw [hE] at hC'
        cases hC'
        rw [if_pos rfl, if_pos rfl, zc, zl]
        exact ⟨rfl, by rw [Nat.add_sub_cancel]⟩
      · obtain ⟨o1, o2⟩ := zo b' C' hbb hC'
        rw [if_neg (by omega), if_neg hbb, o1, o2]
        exact ⟨rfl, rfl⟩
  rcases look_kinds y hh with hk | hk | hk
  · exact absurd hk hk1
  · refine ⟨1, .inr (.inl ⟨rfl, two y Cs C hF hnb hsp hk hC hcb ?_ htold (fun b' C' _ hC' => hc b' C' hC')⟩)⟩
    have g5 := (grow_free hF hh0 hh1 e.addr hk).2.2.2.2.1 b C hC
    rw [if_pos (by rw [hnb, nk1])] at g5
    have := hle (growX y hh e.addr) C
    omega
  · have hneed : needD n (D ++ [(b, e)]) + (cntD D b - 1) / 7 = needD n D + (cntD (D ++ [(b, e)]) b - 1) / 7 := sum_upd (f := fun i => (cntD D i - 1) / 7) (f' := fun i => (cntD (D ++ [(b, e)]) i - 1) / 7) hb (fun i hi => by
      show (cntD (D ++ [(b, e)]) i - 1) / 7 = (cntD D i - 1) / 7
      rw [hcs, if_neg (show ¬ i = (b, e).1 from hi), Nat.add_zero])
    rw [hcs, if_pos rfl, Nat.add_sub_cancel] at hneed
    have hfull : cntW y C = C.length * 7 := by
      have hful := look_full hh hk
      rw [home_chain hF (b := b) (by rw [hnb]; exact nk1.symm) hC] at hful
      unfold cntW
      rw [List.filter_eq_self.2 (fun t ht => ?_), slotsG_length]
      have := hful t ht
      rw [(hF.slot hC ht).2.2.2.1] at this
      exact decide_eq_true this
    obtain ⟨b', C', q1, q2, _, _, q5, q6, q7, q8, q9, q10, q11⟩ := grow_full hF e.addr hk (by omega)
    obtain rfl : b' = b := by rw [hnb, nk1] at q1; omega
    rw [hC] at q2
    cases q2
    have hbl : b' < Cs.length := (List.getElem?_eq_some_iff.1 hC).1
    refine ⟨2, .inr (.inr ⟨rfl, ?_⟩)⟩
    refine ⟨⟨Cs, hF⟩, hk, by omega, two _ _ (C ++ [y.nb + y.taken]) q5 (by rw [(grow_nb _ _ _).1, hnb]) (by rw [(grow_nb _ _ _).2, hsp]) q11 (List.getElem?_set_self hbl) (by rw [q9, hcb]) ?_ (fun g => by rw [q7, htold]) (fun i C' hi hC' => ?_)⟩
    · rw [List.length_append, List.length_singleton]
      omega
    · rw [List.getElem?_set_ne (fun h => hi h.symm)] at hC'
      rw [q10 C' (List.mem_of_getElem? hC')]
      exact hc i C' hC'
theorem filled_zero {n s : Nat} (hn : mayN n) (hs : s ≤ 64) : Filled n s [] (idx0 n s) := by
  have hm := mayN_le hn
  have hF := forest_new (n := n) (s := s) hn (by omega) (by omega)
  have hz : ∀ i : Nat, (idx0 n s).wd i = 0 := fun i => by
    unfold IdxM.wd idx0
    simp only
    rw [List.getD_eq_getElem?_getD, List.getElem?_replicate]
    split <;> rfl
  have hnb : (idx0 n s).nb = n := by unfold idx0; simp
  refine ⟨hnb, by unfold idx0; simp, _, hF, fun g => ?_, fun b C hC => ?_⟩
  · have hbk := bucket_lt (h := g) (show mayN ((idx0 n s).nb : Nat) by rw [hnb]; exact hn)
    obtain ⟨b', hb'⟩ := Int.eq_ofNat_of_zero_le hbk.1
    obtain ⟨C', hC'⟩ := hF.ch.get (show b' < (idx0 n s).nb by omega)
    exact addr_no hF hb'.symm hC' (fun t _ ht => absurd (hz t) ht)
  · have e1 : cntW (idx0 n s) C = 0 := by
      unfold cntW
      rw [List.filter_eq_nil_iff.2 (fun t _ => by rw [hz]; decide)]
      rfl
    have e2 : C.length = 1 := by
      rw [List.getElem?_map] at hC
      cases hr : (List.range ((n : Int)).toNat)[b]? with
      | none => rw [hr] at hC; cases hC
      | some c => rw [hr] at hC; cases hC; rfl
    rw [e1, e2]
    exact ⟨rfl, by simp [cntD]⟩
end Go.Proofs.Ytmlkeackapflhaa
