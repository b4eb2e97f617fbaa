/- Layer 33 (grow): what a put changes. -/
import Derived.Test.YtmlkeackapflhaaL17g
namespace Go.Proofs.Ytmlkeackapflhaa
open Go Go.HX
set_option maxRecDepth 4000
set_option maxHeartbeats 1000000
/-- The address that is told of a number. -/
def toldV (x : IdxM) (y : Int) : Option Int := if (lookV x y).kind = 1 then some (unpackE (lookV x y).word).1.addr else none
def addrV (x : IdxM) (y : Int) : Int := (toldV x y).getD 0
/-- How many words the slots of a chain have. -/
def cntW (x : IdxM) (C : List Nat) : Nat := ((slotsG C).filter (fun s => nz (x.wd s))).length
theorem entries_cnt {x : IdxM} {Cs : List (List Nat)} (h : Forest x Cs) {b : Nat} {C : List Nat} (hC : Cs[b]? = some C) : (x.entries b).length = cntW x C := by
  unfold IdxM.entries IdxM.words cntW
  rw [h.chain hC, List.filter_map, List.length_map]
  rfl
section
variable {x : IdxM} {Cs : List (List Nat)}
theorem hasE_wd (h : Forest x Cs) {s : Nat} (h7 : s % 8 < 7) (hw : x.wd s ≠ 0) {t : Int} (ht : (unpackE (x.wd s)).1.tag = t) : hasE (x.wd s) t = true := by
  rcases h.ent s h7 with h1 | h1
  · exact absurd h1 hw
  · exact decide_eq_true ⟨h1, ht⟩
theorem hasE_nz {v t : Int} (h : hasE v t = true) : v ≠ 0 ∧ (unpackE v).2 = 0 ∧ (unpackE v).1.tag = t := by
  obtain ⟨h1, h2⟩ := of_decide_eq_true h
  exact ⟨fun e => by rw [e] at h1; exact absurd h1 (by decide), h1, h2⟩
theorem addr_at (h : Forest x Cs) {y : Int} {b : Nat} (hb : (b : Int) = bucketZ y x.nb) {C : List Nat} (hC : Cs[b]? = some C) {s : Nat} (hs : s ∈ slotsG C) (hw : x.wd s ≠ 0) (ht : (unpackE (x.wd s)).1.tag = tagZ y) : toldV x y = some (unpackE (x.wd s)).1.addr ∧ (lookV x y).kind = 1 := by
  obtain ⟨b', C', hne, _, hb', hC', _, hcase⟩ := look_tells h y
  obtain rfl : b' = b := by omega
  rw [hC] at hC'
  cases hC'
  unfold toldV
  have hE := hasE_wd h (mem_slots.1 hs).1 hw ht
  rcases hcase with ⟨hk, s', hs', _, hw', hE'⟩ | ⟨hk, _, hno, _⟩ | ⟨hk, _, hno⟩
  · obtain ⟨u0, _, u2⟩ := hasE_nz hE'
    rw [if_pos hk, hw', h.uniq b' C hC s' hs' s hs u0 hw (u2.trans ht.symm)]
    exact ⟨rfl, hk⟩
  · rw [hno s hs] at hE
    cases hE
  · rw [hno s hs] at hE
    cases hE
theorem addr_no (h : Forest x Cs) {y : Int} {b : Nat} (hb : (b : Int) = bucketZ y x.nb) {C : List Nat} (hC : Cs[b]? = some C) (hn : ∀ s ∈ slotsG C, x.wd s ≠ 0 → (unpackE (x.wd s)).1.tag ≠ tagZ y) : toldV x y = none := by
  obtain ⟨b', C', hne, _, hb', hC', _, hcase⟩ := look_tells h y
  obtain rfl : b' = b := by omega
  rw [hC] at hC'
  cases hC'
  unfold toldV
  rcases hcase with ⟨hk, s', hs', _, hw', hE'⟩ | ⟨hk, _, hno, _⟩ | ⟨hk, _, hno⟩
  · obtain ⟨u0, _, u2⟩ := hasE_nz hE'
    exact absurd u2 (hn s' hs' u0)
  · rw [if_neg (by omega)]
  · rw [if_neg (by omega)]
/-- Where chains hold the same words, the same is told. -/
theorem addr_congr {x' : IdxM} {Cs' : List (List Nat)} (h : Forest x Cs) (h' : Forest x' Cs') (hnb : x'.nb = x.nb) {y : Int} {b : Nat} (hb : (b : Int) = bucketZ y x.nb) {C C' : List Nat} (hC : Cs[b]? = some C) (hC' : Cs'[b]? = some C')
    (h1 : ∀ s ∈ slotsG C, x.wd s ≠ 0 → (unpackE (x.wd s)).1.tag = tagZ y → ∃ s' ∈ slotsG C', x'.wd s' = x.wd s) (h2 : ∀ s' ∈ slotsG C', x'.wd s' ≠ 0 → (unpackE (x'.wd s')).1.tag = tagZ y → ∃ s ∈ slotsG C, x.wd s = x'.wd s') : toldV x' y = toldV x y := by
  by_cases hx : ∃ s ∈ slotsG C, x.wd s ≠ 0 ∧ (unpackE (x.wd s)).1.tag = tagZ y
  · obtain ⟨s, hs, hw, ht⟩ := hx
    obtain ⟨s', hs', e⟩ := h1 s hs hw ht
    rw [(addr_at h hb hC hs hw ht).1, (addr_at h' (by rw [hnb]; exact hb) hC' hs' (by rw [e]; exact hw) (by rw [e]; exact ht)).1, e]
  · rw [addr_no h hb hC (fun s hs hw ht => hx ⟨s, hs, hw, ht⟩), addr_no h' (by rw [hnb]; exact hb) hC' (fun s' hs' hw ht => ?_)]
    obtain ⟨s, hs, e⟩ := h2 s' hs' hw ht
    exact hx ⟨s, hs, by rw [e]; exact hw, by rw [e]; exact ht⟩
theorem look_full (y : Int) (hk : (lookV x y).kind = 3) : ∀ s ∈ slotsG (x.home y), x.row.load s ≠ 0 := by
  intro s hs e
  have hin : ((s : Nat) : Int) ∈ x.homes y := List.mem_map.2 ⟨s, hs, rfl⟩
  by_cases c2 : 0 ≤ x.free y
  · unfold lookV at hk
    split at hk
    · cases hk
    · cases hk
  · have := findZ_not (show ¬ 0 ≤ findZ (fun s => decide (x.row.load s = 0)) (x.homes y) from c2) _ hin
    exact of_decide_eq_false this e
theorem cnt_set {ws : List Int} {s : Nat} {v : Int} {w1 w2 : Int} (hws : x.row.ws = ws) (hs : s < ws.length) {C : List Nat} (hd : C.Nodup) (hv : v ≠ 0) : cntW { x with row := ⟨ws.set s v, w1, w2⟩ } C = cntW x C + if s ∈ slotsG C ∧ x.wd s = 0 then 1 else 0 := by
  subst hws
  unfold cntW
  have hn := slots_nodup hd
  have hwd : ∀ t, IdxM.wd { x with row := ⟨x.row.ws.set s v, w1, w2⟩ } t = if t = s then v else x.wd t := fun t => getD_set hs
  generalize slotsG C = L at hn ⊢
  induction L with
  | nil => simp
  | cons t L ih =>
    have ih := ih hn.of_cons
    have ht := (List.nodup_cons.1 hn).1
    simp only [List.filter_cons, hwd]
    simp only [hwd] at ih
    by_cases hts : t = s
    · subst hts
      have e1 : nz v = true := decide_eq_true hv
      have e0 : ¬ (t ∈ L ∧ x.wd t = 0) := fun hx => ht hx.1
      rw [if_neg e0] at ih
      rw [if_pos rfl, if_pos e1, List.length_cons, ih]
      by_cases hz : x.wd t = 0
      · have e2 : ¬ nz (x.wd t) = true := fun hx => of_decide_eq_true hx hz
        rw [if_neg e2, if_pos ⟨by simp, hz⟩]
      · have e2 : nz (x.wd t) = true := decide_eq_true hz
        rw [if_pos e2, if_neg (fun hx => hz hx.2), List.length_cons]
    · rw [if_neg hts]
      have e3 : (s ∈ t :: L ∧ x.wd s = 0) ↔ (s ∈ L ∧ x.wd s = 0) := by
        rw [List.mem_cons]
        constructor
        · rintro ⟨h1 | h1, h2⟩
          · exact absurd h1.symm hts
          · exact ⟨h1, h2⟩
        · rintro ⟨h1, h2⟩
          exact ⟨.inr h1, h2⟩
      simp only [e3]
      cases hz : nz (x.wd t) <;> simp only [Bool.false_eq_true, if_false, if_true, List.length_cons, ih] <;> omega
/-- A slot has another entry: what is told then. -/
theorem addr_put (h : Forest x Cs) {b : Nat} {C : List Nat} (hC : Cs[b]? = some C) {s : Nat} (hs : s ∈ slotsG C) {v w1 w2 : Int} (hv : v ≠ 0) (h' : Forest { x with row := ⟨x.row.ws.set s v, w1, w2⟩ } Cs) (ho : x.wd s = 0 ∨ (unpackE (x.wd s)).1.tag = (unpackE v).1.tag) (g : Int) :
    toldV { x with row := ⟨x.row.ws.set s v, w1, w2⟩ } g = if bucketZ g x.nb = b ∧ tagZ g = (unpackE v).1.tag then some (unpackE v).1.addr else toldV x g := by
  have hsl := (h.slot hC hs).2.2.1
  have hwd : ∀ t, IdxM.wd { x with row := ⟨x.row.ws.set s v, w1, w2⟩ } t = if t = s then v else x.wd t := fun t => getD_set hsl
  have hws : IdxM.wd { x with row := ⟨x.row.ws.set s v, w1, w2⟩ } s = v := by rw [hwd, if_pos rfl]
  by_cases hg : bucketZ g x.nb = b ∧ tagZ g = (unpackE v).1.tag
  · rw [if_pos hg, (addr_at h' (b := b) (y := g) hg.1.symm hC hs (by rw [hws]; exact hv) (by rw [hws]; exact hg.2.symm)).1, hws]
  · rw [if_neg hg]
    have hbk := bucket_lt (h := g) h.may
    obtain ⟨b', hb'⟩ := Int.eq_ofNat_of_zero_le hbk.1
    obtain ⟨C', hC'⟩ := h.ch.get (show b' < x.nb by omega)
    refine addr_congr h h' rfl hb'.symm hC' hC' (fun t ht hw htt => ⟨t, ht, ?_⟩) (fun t ht hw htt => ⟨t, ht, ?_⟩)
    · rw [hwd, if_neg]
      rintro rfl
      have hbb : b' = b := Classical.byContradiction (fun hne => apart_parts h.ch.nd hC' hC hne (mem_slots.1 ht).2 (mem_slots.1 hs).2)
      subst hbb
      rcases ho with ho | ho
      · exact hw ho
      · exact hg ⟨hb', htt.symm.trans ho⟩
    · rw [hwd] at hw htt ⊢
      rw [if_neg]
      rintro rfl
      have hbb : b' = b := Classical.byContradiction (fun hne => apart_parts h.ch.nd hC' hC hne (mem_slots.1 ht).2 (mem_slots.1 hs).2)
      subst hbb
      rw [if_pos rfl] at htt
      exact hg ⟨hb', htt.symm⟩
end
end Go.Proofs.Ytmlkeackapflhaa
