/- Layer 17 (index): chains that stand apart; in each a tag stands once. -/
import Derived.Test.YtmlkeackapflhaaP17c
namespace Go.Proofs.Ytmlkeackapflhaa
open Go Go.HX
set_option maxRecDepth 4000
set_option maxHeartbeats 1000000
theorem nodup_le : ∀ (n : Nat) (l : List Nat), l.Nodup → (∀ c ∈ l, c < n) → l.length ≤ n
  | 0, l, _, h => by
    cases l with
    | nil => simp
    | cons a l => exact absurd (h a (by simp)) (by omega)
  | n + 1, l, hd, h => by
    have h2 := nodup_le n (l.erase n) (hd.erase n) (fun c hc => by
      have h3 := (hd.mem_erase_iff).1 hc
      have := h c h3.2
      omega)
    have h4 := List.le_length_erase (l := l) (a := n)
    omega
/-- Buckets from b on, by their links, to the last. -/
def isPath (lnk : Nat → Nat) : Nat → List Nat → Prop
  | _, [] => False
  | b, [c] => c = b ∧ lnk b = 0
  | b, c :: d :: C => c = b ∧ lnk b ≠ 0 ∧ isPath lnk (lnk b - 1) (d :: C)
theorem path_chain {lnk : Nat → Nat} : ∀ {C : List Nat} {b f : Nat}, isPath lnk b C → C.length ≤ f → chainG lnk f b = C
  | [], _, _, h, _ => h.elim
  | [c], b, f, h, hf => by
    obtain ⟨rfl, h0⟩ := h
    cases f with
    | zero => simp at hf
    | succ f => simp [chainG, h0]
  | c :: d :: C, b, f, h, hf => by
    obtain ⟨rfl, h0, h1⟩ := h
    cases f with
    | zero => simp at hf
    | succ f =>
      have := path_chain (f := f) h1 (by simp at hf ⊢; omega)
      simp [chainG, h0, this]
theorem path_congr {lnk lnk' : Nat → Nat} : ∀ {C : List Nat} {b : Nat}, isPath lnk b C → (∀ c ∈ C, lnk' c = lnk c) → isPath lnk' b C
  | [], _, h, _ => h.elim
  | [c], b, h, he => by
    obtain ⟨rfl, h0⟩ := h
    exact ⟨rfl, by rw [he c (by simp)]; exact h0⟩
  | c :: d :: C, b, h, he => by
    obtain ⟨rfl, h0, h1⟩ := h
    refine ⟨rfl, by rw [he c (by simp)]; exact h0, ?_⟩
    rw [he c (by simp)]
    exact path_congr h1 (fun x hx => he x (List.mem_cons_of_mem _ hx))
theorem path_ne {lnk : Nat → Nat} {C : List Nat} {b : Nat} (h : isPath lnk b C) : C ≠ [] := by
  cases C with
  | nil => exact h.elim
  | cons => simp
theorem path_last {lnk : Nat → Nat} : ∀ {C : List Nat} {b : Nat}, isPath lnk b C → ∀ (hne : C ≠ []), lnk (C.getLast hne) = 0
  | [], _, h, _ => h.elim
  | [c], b, h, _ => by
    obtain ⟨rfl, h0⟩ := h
    simpa using h0
  | c :: d :: C, b, h, _ => by
    have := path_last h.2.2 (by simp)
    rw [List.getLast_cons (by simp)]
    exact this
theorem path_snoc {lnk lnk' : Nat → Nat} {s : Nat} : ∀ {C : List Nat} {b : Nat}, isPath lnk b C → C.Nodup → (∀ hne : C ≠ [], lnk' (C.getLast hne) = s + 1) → lnk' s = 0 → (∀ c ∈ C, (∀ hne : C ≠ [], c ≠ C.getLast hne) → lnk' c = lnk c) → isPath lnk' b (C ++ [s])
  | [], _, h, _, _, _, _ => h.elim
  | [c], b, h, _, hl, h0, _ => by
    obtain ⟨rfl, _⟩ := h
    have := hl (by simp)
    simp only [List.getLast_singleton] at this
    refine ⟨rfl, by omega, ?_⟩
    rw [this]
    exact ⟨by omega, h0⟩
  | c :: d :: C, b, h, hd, hl, h0, he => by
    obtain ⟨rfl, h1, h2⟩ := h
    have hcl : c ≠ (d :: C).getLast (by simp) := fun e => (List.nodup_cons.1 hd).1 (e ▸ List.getLast_mem _)
    have hc : lnk' c = lnk c := he c (by simp) (fun _ => by rw [List.getLast_cons (by simp)]; exact hcl)
    refine ⟨rfl, by rw [hc]; exact h1, ?_⟩
    rw [hc]
    refine path_snoc h2 (List.nodup_cons.1 hd).2 (fun hne => ?_) h0 (fun x hx hxl => ?_)
    · have := hl (by simp)
      rw [List.getLast_cons (by simp)] at this
      exact this
    · refine he x (List.mem_cons_of_mem _ hx) (fun _ => ?_)
      rw [List.getLast_cons (by simp)]
      exact hxl (by simp)
theorem mem_slots {C : List Nat} {s : Nat} : s ∈ slotsG C ↔ s % 8 < 7 ∧ s / 8 ∈ C := by
  unfold slotsG
  simp only [List.mem_flatMap, List.mem_map, List.mem_range]
  constructor
  · rintro ⟨b, hb, k, hk, rfl⟩
    exact ⟨by omega, by rw [show (b * 8 + k) / 8 = b by omega]; exact hb⟩
  · rintro ⟨h1, h2⟩
    exact ⟨s / 8, h2, s % 8, h1, by omega⟩
def IdxM.wd (x : IdxM) (s : Nat) : Int := x.row.ws.getD s 0
def lnkW (ws : List Int) (b : Nat) : Nat := (ws.getD (b * 8 + 7) 0).toNat
/-- Chains that stand apart, of all buckets that are in use. -/
structure Chains (nb sp : Nat) (ws : List Int) (tk : Nat) (Cs : List (List Nat)) : Prop where
  wl : ws.length = (nb + sp) * 8
  bnd : ∀ i, 0 ≤ ws.getD i 0 ∧ ws.getD i 0 ≤ 18446744073709551615
  len : Cs.length = nb
  path : ∀ (b : Nat) (C : List Nat), Cs[b]? = some C → isPath (lnkW ws) b C
  nd : Cs.flatten.Nodup
  cov : ∀ c, c ∈ Cs.flatten ↔ c < nb + tk
  cap : tk ≤ sp
  zero : ∀ i, (nb + tk) * 8 ≤ i → ws.getD i 0 = 0
theorem mem_flat {Cs : List (List Nat)} {b : Nat} {C : List Nat} (h : Cs[b]? = some C) {c : Nat} (hc : c ∈ C) : c ∈ Cs.flatten := List.mem_flatten.2 ⟨C, List.mem_of_getElem? h, hc⟩
theorem nodup_part {Cs : List (List Nat)} {b : Nat} {C : List Nat} (hd : Cs.flatten.Nodup) (h : Cs[b]? = some C) : C.Nodup := (List.pairwise_flatten.1 hd).1 C (List.mem_of_getElem? h)
theorem apart_parts {Cs : List (List Nat)} {b b' : Nat} {C C' : List Nat} (hd : Cs.flatten.Nodup) (h : Cs[b]? = some C) (h' : Cs[b']? = some C') (hb : b ≠ b') {c : Nat} (hc : c ∈ C) : ¬ c ∈ C' := by
  intro hc'
  have hp := (List.pairwise_flatten.1 hd).2
  rw [List.pairwise_iff_getElem] at hp
  obtain ⟨h1, rfl⟩ := List.getElem?_eq_some_iff.1 h
  obtain ⟨h2, rfl⟩ := List.getElem?_eq_some_iff.1 h'
  rcases Nat.lt_or_gt_of_ne hb with hl | hl
  · exact hp b b' h1 h2 hl _ hc _ hc' rfl
  · exact hp b' b h2 h1 hl _ hc' _ hc rfl
theorem path_next {lnk : Nat → Nat} : ∀ {C : List Nat} {b : Nat}, isPath lnk b C → ∀ c ∈ C, lnk c ≠ 0 → lnk c - 1 ∈ C
  | [], _, h, _, _, _ => h.elim
  | [a], b, h, c, hc, hl => by
    obtain ⟨rfl, h0⟩ := h
    simp at hc
    subst hc
    exact absurd h0 hl
  | a :: d :: C, b, h, c, hc, hl => by
    obtain ⟨rfl, h0, h1⟩ := h
    rcases List.mem_cons.1 hc with rfl | hc
    · have : d = lnk c - 1 := by
        cases C with
        | nil => exact h1.1
        | cons => exact h1.1
      rw [← this]
      simp
    · exact List.mem_cons_of_mem _ (path_next h1 c hc hl)
theorem getD_set {l : List Int} {i j : Nat} {v : Int} (hi : i < l.length) : (l.set i v).getD j 0 = if j = i then v else l.getD j 0 := by
  rw [List.getD_eq_getElem?_getD, List.getElem?_set]
  by_cases h : i = j
  · subst h; simp [hi]
  · rw [if_neg h, if_neg (fun e => h e.symm), List.getD_eq_getElem?_getD]
theorem flat_set {s : Nat} : ∀ {Cs : List (List Nat)} {b : Nat} {C : List Nat}, Cs[b]? = some C → (Cs.set b (C ++ [s])).flatten.Perm (s :: Cs.flatten)
  | [], _, _, h => by simp at h
  | C0 :: Cs, 0, C, h => by
    simp at h
    subst h
    simp only [List.set_cons_zero, List.flatten_cons, List.append_assoc, List.singleton_append]
    exact List.perm_middle
  | C0 :: Cs, b + 1, C, h => by
    have ih := flat_set (s := s) (Cs := Cs) (b := b) (by simpa using h)
    simp only [List.set_cons_succ, List.flatten_cons]
    exact (ih.append_left C0).trans List.perm_middle
section
variable {nb sp tk : Nat} {ws : List Int} {Cs : List (List Nat)}
theorem Chains.get (h : Chains nb sp ws tk Cs) {b : Nat} (hb : b < nb) : ∃ C, Cs[b]? = some C := ⟨_, List.getElem?_eq_getElem (by rw [h.len]; exact hb)⟩
theorem Chains.lt (h : Chains nb sp ws tk Cs) {b : Nat} {C : List Nat} (hC : Cs[b]? = some C) {c : Nat} (hc : c ∈ C) : c < nb + tk := (h.cov c).1 (mem_flat hC hc)
theorem Chains.ne (h : Chains nb sp ws tk Cs) {b : Nat} {C : List Nat} (hC : Cs[b]? = some C) : C ≠ [] := path_ne (h.path b C hC)
theorem Chains.size (h : Chains nb sp ws tk Cs) {b : Nat} {C : List Nat} (hC : Cs[b]? = some C) : C.length ≤ nb + tk := nodup_le _ C (nodup_part h.nd hC) (fun _ hc => h.lt hC hc)
theorem Chains.chain (h : Chains nb sp ws tk Cs) {b : Nat} {C : List Nat} (hC : Cs[b]? = some C) : chainG (lnkW ws) (nb + sp + 1) b = C := by
  have := h.size hC
  have := h.cap
  exact path_chain (h.path b C hC) (by omega)
theorem Chains.link (h : Chains nb sp ws tk Cs) (c : Nat) : lnkW ws c ≤ nb + tk := by
  by_cases hl : lnkW ws c = 0
  · omega
  · by_cases hc : c < nb + tk
    · obtain ⟨C, hC, hcC⟩ := List.mem_flatten.1 ((h.cov c).2 hc)
      obtain ⟨b, hb⟩ := List.getElem?_of_mem hC
      have := h.lt hb (path_next (h.path b C hb) c hcC hl)
      omega
    · exfalso
      unfold lnkW at hl
      rw [h.zero _ (by omega)] at hl
      exact hl rfl
/-- A slot has another word. -/
theorem Chains.put (h : Chains nb sp ws tk Cs) {s : Nat} {v : Int} (h7 : s % 8 < 7) (hs : s < (nb + tk) * 8) (v0 : 0 ≤ v) (v1 : v ≤ 18446744073709551615) : Chains nb sp (ws.set s v) tk Cs := by
  have hc := h.cap
  have hsl : s < ws.length := by rw [h.wl]; omega
  have hlnk : ∀ c, lnkW (ws.set s v) c = lnkW ws c := fun c => by
    unfold lnkW
    rw [getD_set hsl, if_neg (by omega)]
  refine ⟨by rw [List.length_set]; exact h.wl, fun i => ?_, h.len, fun b C hC => path_congr (h.path b C hC) (fun c _ => hlnk c), h.nd, h.cov, h.cap, fun i hi => ?_⟩
  · rw [getD_set hsl]
    split
    · exact ⟨v0, v1⟩
    · exact h.bnd i
  · rw [getD_set hsl, if_neg (by omega)]
    exact h.zero i hi
/-- A bucket more behind a chain. -/
theorem Chains.more (h : Chains nb sp ws tk Cs) {r : Nat} {C : List Nat} (hC : Cs[r]? = some C) (hne : C ≠ []) (hs : nb + sp ≤ 2000) (ht : tk < sp) : Chains nb sp (ws.set (C.getLast hne * 8 + 7) ((nb + tk : Nat) + 1 : Int)) (tk + 1) (Cs.set r (C ++ [nb + tk])) := by
  have hlm := List.getLast_mem hne
  have hll := h.lt hC hlm
  have hsl : C.getLast hne * 8 + 7 < ws.length := by rw [h.wl]; omega
  have hrl : r < Cs.length := (List.getElem?_eq_some_iff.1 hC).1
  have hlnk : ∀ c, lnkW (ws.set (C.getLast hne * 8 + 7) ((nb + tk : Nat) + 1 : Int)) c = if c = C.getLast hne then nb + tk + 1 else lnkW ws c := fun c => by
    unfold lnkW
    rw [getD_set hsl]
    by_cases e : c = C.getLast hne
    · rw [if_pos (by omega), if_pos e]; omega
    · rw [if_neg (by omega), if_neg e]
  have hfr : ¬ nb + tk ∈ Cs.flatten := fun hm => by have := (h.cov _).1 hm; omega
  have hpm := flat_set (s := nb + tk) hC
  refine ⟨by rw [List.length_set]; exact h.wl, fun i => ?_, by rw [List.length_set]; exact h.len, fun b C' hC' => ?_, hpm.nodup_iff.2 (List.nodup_cons.2 ⟨hfr, h.nd⟩), fun c => ?_, by omega, fun i hi => ?_⟩
  · rw [getD_set hsl]
    split
    · omega
    · exact h.bnd i
  · by_cases hb : r = b
    · subst hb
      rw [List.getElem?_set_self hrl] at hC'
      cases hC'
      refine path_snoc (h.path r C hC) (nodup_part h.nd hC) (fun _ => by rw [hlnk, if_pos rfl]) ?_ (fun c hc hcl => by rw [hlnk, if_neg (hcl hne)])
      rw [hlnk, if_neg (by omega)]
      unfold lnkW
      rw [h.zero _ (by omega)]
      rfl
    · rw [List.getElem?_set_ne hb] at hC'
      refine path_congr (h.path b C' hC') (fun c hc => ?_)
      rw [hlnk, if_neg]
      rintro rfl
      exact apart_parts h.nd hC hC' hb hlm hc
  · rw [hpm.mem_iff, List.mem_cons, h.cov]
    omega
  · rw [getD_set hsl, if_neg (by omega)]
    exact h.zero i (by omega)
end
end Go.Proofs.Ytmlkeackapflhaa
