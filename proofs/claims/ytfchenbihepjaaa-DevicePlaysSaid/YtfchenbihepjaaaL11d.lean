/- Layer 11 (device), the plain law: the program's device is the document's. -/
import Derived.Test.YtfchenbihepjaaaP11g
import Derived.Test.YtfchenbihepjaaaL11
namespace Go.Proofs.Ytfchenbihepjaaa
open Go Go.HX
abbrev KK := List (Int × Int)
def ltK (b c : Int × Int) : Prop := b.1 < c.1 ∨ b.1 = c.1 ∧ b.2 < c.2
def UpK (l : BL) : Prop := l.Pairwise fun p q => ltK p.1 q.1
theorem layT_get {b c : Int × Int} {s : ByteArray} : ∀ l : BL, getL c (layGo b s true l) = if c = b then none else getL c l
  | [] => by
    rw [layGo, if_pos rfl, getL_nil]
    split <;> rfl
  | x :: xs => by
    have h := layT_get (b := b) (c := c) (s := s) xs
    rw [layGo, if_neg (fun e => by cases e.1), List.nil_append, Bool.true_or]
    by_cases h1 : x.1 = b
    · rw [if_pos h1, List.nil_append, h]
      by_cases h2 : c = b
      · rw [if_pos h2, if_pos h2]
      · rw [if_neg h2, if_neg h2, getL_cons, if_neg (fun e => h2 (e.symm.trans h1))]
    · rw [if_neg h1, List.singleton_append, getL_cons, getL_cons, h]
      by_cases h2 : c = b
      · rw [if_pos h2, if_pos h2, if_neg (fun e => h1 (e.trans h2))]
      · rw [if_neg h2, if_neg h2]
theorem layF_get {b c : Int × Int} {s : ByteArray} : ∀ l : BL, getL c (layGo b s false l) = if c = b then some s else getL c l
  | [] => by
    rw [layGo, if_neg (by simp), getL_cons, getL_nil]
    by_cases h : c = b
    · rw [if_pos h.symm, if_pos h]
    · rw [if_neg (fun e => h e.symm), if_neg h]
  | x :: xs => by
    rw [layGo, Bool.false_or]
    by_cases hk : leK b x.1
    · have h := layT_get (b := b) (c := c) (s := s) xs
      rw [if_pos ⟨rfl, hk⟩, decide_eq_true hk, List.singleton_append, getL_cons]
      by_cases h2 : c = b
      · rw [if_pos h2.symm, if_pos h2]
      · rw [if_neg (fun e => h2 e.symm), if_neg h2]
        by_cases h1 : x.1 = b
        · rw [if_pos h1, List.nil_append, h, if_neg h2, getL_cons, if_neg (fun e => h2 (e.symm.trans h1))]
        · rw [if_neg h1, List.singleton_append, getL_cons, getL_cons, h, if_neg h2]
    · have h := layF_get (b := b) (c := c) (s := s) xs
      have h1 : ¬ x.1 = b := fun e => hk (by unfold leK; rw [e]; omega)
      rw [if_neg (fun e => hk e.2), decide_eq_false hk, List.nil_append, if_neg h1, List.singleton_append, getL_cons, getL_cons, h]
      by_cases h2 : c = b
      · rw [if_pos h2, if_pos h2, if_neg (fun e => h1 (e.trans h2))]
      · rw [if_neg h2, if_neg h2]
theorem layT_up {b : Int × Int} {s : ByteArray} : ∀ {l : BL}, UpK l → (∀ p ∈ l, leK b p.1) → UpK (layGo b s true l) ∧ ∀ p ∈ layGo b s true l, ltK b p.1
  | [], _, _ => by
    rw [layGo, if_pos rfl]
    exact ⟨.nil, fun p hp => by cases hp⟩
  | x :: xs, h, hb => by
    obtain ⟨h1, h2⟩ := List.pairwise_cons.1 h
    obtain ⟨i1, i2⟩ := layT_up (b := b) (s := s) (l := xs) h2 (fun p hp => hb p (List.mem_cons_of_mem _ hp))
    rw [layGo, if_neg (fun e => by cases e.1), List.nil_append, Bool.true_or]
    by_cases hx : x.1 = b
    · rw [if_pos hx, List.nil_append]
      exact ⟨i1, i2⟩
    · have hxb : ltK b x.1 := by
        have h3 := hb x (List.mem_cons_self ..)
        have h4 : ¬ (x.1.1 = b.1 ∧ x.1.2 = b.2) := fun e => hx (Prod.ext e.1 e.2)
        unfold leK at h3
        unfold ltK
        omega
      rw [if_neg hx, List.singleton_append]
      refine ⟨List.pairwise_cons.2 ⟨fun p hp => ?_, i1⟩, fun p hp => ?_⟩
      · rcases lay_mem _ _ _ _ _ hp with hp | rfl
        · exact h1 p hp
        · have h5 := i2 _ hp
          unfold ltK at h5
          dsimp only at h5
          omega
      · rcases List.mem_cons.1 hp with rfl | hp
        · exact hxb
        · exact i2 p hp
theorem layF_up {b : Int × Int} {s : ByteArray} : ∀ {l : BL}, UpK l → UpK (layGo b s false l)
  | [], _ => by
    rw [layGo, if_neg (by simp)]
    exact List.pairwise_singleton ..
  | x :: xs, h => by
    obtain ⟨h1, h2⟩ := List.pairwise_cons.1 h
    rw [layGo, Bool.false_or]
    by_cases hk : leK b x.1
    · have hall : ∀ p ∈ xs, leK b p.1 := fun p hp => by
        have h3 := h1 p hp
        unfold leK at hk ⊢
        unfold ltK at h3
        omega
      obtain ⟨i1, i2⟩ := layT_up (b := b) (s := s) h2 hall
      rw [if_pos ⟨rfl, hk⟩, decide_eq_true hk, List.singleton_append]
      by_cases hx : x.1 = b
      · rw [if_pos hx, List.nil_append]
        exact List.pairwise_cons.2 ⟨fun p hp => i2 p hp, i1⟩
      · have hxb : ltK b x.1 := by
          have h4 : ¬ (x.1.1 = b.1 ∧ x.1.2 = b.2) := fun e => hx (Prod.ext e.1 e.2)
          unfold leK at hk
          unfold ltK
          omega
        rw [if_neg hx, List.singleton_append]
        refine List.pairwise_cons.2 ⟨fun p hp => ?_, List.pairwise_cons.2 ⟨fun p hp => ?_, i1⟩⟩
        · rcases List.mem_cons.1 hp with rfl | hp
          · exact hxb
          · exact i2 p hp
        · rcases lay_mem _ _ _ _ _ hp with hp | rfl
          · exact h1 p hp
          · have h5 := i2 _ hp
            unfold ltK at h5
            dsimp only at h5
            omega
    · have hx : ¬ x.1 = b := fun e => hk (by unfold leK; rw [e]; omega)
      have hxb : ltK x.1 b := by unfold leK at hk; unfold ltK; omega
      rw [if_neg (fun e => hk e.2), decide_eq_false hk, List.nil_append, if_neg hx, List.singleton_append]
      refine List.pairwise_cons.2 ⟨fun p hp => ?_, layF_up h2⟩
      rcases lay_mem _ _ _ _ _ hp with hp | rfl
      · exact h1 p hp
      · exact hxb
section
variable {κ α : Type} [DecidableEq κ]
theorem put_keys (v : κ) (u : α) : ∀ l : List (κ × α), (putL v u l).map (·.1) = if v ∈ l.map (·.1) then l.map (·.1) else l.map (·.1) ++ [v]
  | [] => by rw [putL_nil]; rfl
  | p :: l => by
    rw [putL_cons]
    by_cases h : p.1 = v
    · rw [if_pos h, if_pos (by rw [← h]; exact List.mem_cons_self ..), List.map_cons, List.map_cons, h]
    · rw [if_neg h, List.map_cons, put_keys v u l, List.map_cons]
      by_cases h2 : v ∈ l.map (·.1)
      · rw [if_pos h2, if_pos (List.mem_cons_of_mem _ h2)]
      · rw [if_neg h2, if_neg (fun e => (List.mem_cons.1 e).elim (fun e => h e.symm) h2)]
        rfl
theorem put_nodup {v : κ} {u : α} {l : List (κ × α)} (h : (l.map (·.1)).Nodup) : ((putL v u l).map (·.1)).Nodup := by
  rw [put_keys]
  split
  · exact h
  · rename_i hv
    rw [List.nodup_append]
    refine ⟨h, by simp, fun a ha c hc e => ?_⟩
    rw [List.mem_singleton.1 hc] at e
    exact hv (by rw [← e]; exact ha)
theorem get_mem_iff {v : κ} {l : List (κ × α)} : (∃ u, getL v l = some u) ↔ v ∈ l.map (·.1) := by
  constructor
  · rintro ⟨u, h⟩
    exact List.mem_map.2 ⟨_, getL_mem h, rfl⟩
  · exact getL_has
theorem del_get {v : κ} {l : List (κ × α)} (h : (l.map (·.1)).Nodup) : getL v (delL v l) = none := by
  cases hg : getL v (delL v l) with
  | none => rfl
  | some u => exact absurd rfl (delL_ne h _ (getL_mem hg))
end
end Go.Proofs.Ytfchenbihepjaaa
