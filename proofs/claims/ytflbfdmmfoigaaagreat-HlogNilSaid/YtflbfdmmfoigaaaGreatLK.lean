/- Lists of keys and what they have. -/
import Derived.Test.YtflbfdmmfoigaaaGreatP11
namespace Go.Proofs.YtflbfdmmfoigaaaGreat
open Go Go.HX
section
variable {κ α : Type} [DecidableEq κ]
theorem getL_mem {v : κ} {u : α} {l : List (κ × α)} (h : getL v l = some u) : (v, u) ∈ l := by
  unfold getL at h
  obtain ⟨p, hp, he⟩ := Option.map_eq_some_iff.1 h
  have h1 := List.mem_of_find?_eq_some hp
  have h2 := List.find?_some hp
  simp at h2
  obtain ⟨pk, pv⟩ := p
  simp at h2 he
  subst h2
  subst he
  exact h1
theorem getL_has {v : κ} {l : List (κ × α)} (h : v ∈ l.map (·.1)) : ∃ u, getL v l = some u := by
  obtain ⟨p, hp, rfl⟩ := List.mem_map.1 h
  unfold getL
  cases hf : l.find? (fun q => decide (q.1 = p.1)) with
  | none =>
    have := List.find?_eq_none.1 hf p hp
    simp at this
  | some q => exact ⟨q.2, rfl⟩
theorem mem_putL {v : κ} {u : α} {l : List (κ × α)} {p : κ × α} (h : p ∈ putL v u l) : p ∈ l ∨ p = (v, u) := by
  unfold putL at h
  split at h
  · rcases List.mem_or_eq_of_mem_set h with h | h
    · exact .inl h
    · exact .inr h
  · simpa using h
theorem getL_nil (v : κ) : getL v ([] : List (κ × α)) = none := rfl
theorem getL_cons (v : κ) (p : κ × α) (l : List (κ × α)) : getL v (p :: l) = if p.1 = v then some p.2 else getL v l := by
  unfold getL
  rw [List.find?_cons]
  by_cases h : p.1 = v <;> simp [h]
theorem putL_nil (v : κ) (u : α) : putL v u [] = [(v, u)] := rfl
theorem putL_cons (v : κ) (u : α) (p : κ × α) (l : List (κ × α)) : putL v u (p :: l) = if p.1 = v then (v, u) :: l else p :: putL v u l := by
  unfold putL
  rw [List.findIdx?_cons]
  by_cases h : p.1 = v
  · simp [h]
  · simp only [h, decide_false, if_false]
    cases l.findIdx? (fun p => decide (p.1 = v)) <;> simp
theorem delL_nil (v : κ) : delL v ([] : List (κ × α)) = [] := rfl
theorem delL_cons (v : κ) (p : κ × α) (l : List (κ × α)) : delL v (p :: l) = if p.1 = v then l else p :: delL v l := by
  unfold delL
  rw [List.findIdx?_cons]
  by_cases h : p.1 = v
  · simp [h]
  · simp only [h, decide_false, if_false]
    cases l.findIdx? (fun p => decide (p.1 = v)) <;> simp
theorem getL_put (k v : κ) (u : α) : ∀ l : List (κ × α), getL k (putL v u l) = if k = v then some u else getL k l
  | [] => by
    rw [putL_nil, getL_cons, getL_nil]
    by_cases h : k = v
    · rw [if_pos h.symm, if_pos h]
    · rw [if_neg (fun e => h e.symm), if_neg h]
  | p :: l => by
    rw [putL_cons]
    by_cases h : p.1 = v
    · rw [if_pos h, getL_cons, getL_cons]
      by_cases h2 : k = v
      · rw [if_pos h2.symm, if_pos h2]
      · rw [if_neg (fun e => h2 e.symm), if_neg h2, if_neg (fun e => h2 (e.symm.trans h))]
    · rw [if_neg h, getL_cons, getL_cons, getL_put k v u l]
      by_cases h2 : p.1 = k
      · rw [if_pos h2, if_pos h2, if_neg (fun e => h (h2.trans e))]
      · rw [if_neg h2, if_neg h2]
theorem putL_new {v : κ} (u : α) : ∀ {l : List (κ × α)}, v ∉ l.map (·.1) → putL v u l = l ++ [(v, u)]
  | [], _ => rfl
  | p :: l, h => by
    rw [List.map_cons, List.mem_cons] at h
    rw [putL_cons, if_neg (fun e => h (.inl e.symm)), putL_new u (fun hx => h (.inr hx))]
    rfl
theorem getL_del {k v : κ} (h : k ≠ v) : ∀ l : List (κ × α), getL k (delL v l) = getL k l
  | [] => rfl
  | p :: l => by
    rw [delL_cons]
    by_cases h2 : p.1 = v
    · rw [if_pos h2, getL_cons, if_neg (fun e => h (e.symm.trans h2))]
    · rw [if_neg h2, getL_cons, getL_cons, getL_del h l]
theorem delL_sub (v : κ) : ∀ l : List (κ × α), (delL v l).Sublist l
  | [] => .slnil
  | p :: l => by
    rw [delL_cons]
    split
    · exact List.sublist_cons_self p l
    · exact (delL_sub v l).cons_cons p
theorem delL_ne {v : κ} : ∀ {l : List (κ × α)}, (l.map (·.1)).Nodup → ∀ p ∈ delL v l, p.1 ≠ v
  | [], _, p, hp => by rw [delL_nil] at hp; cases hp
  | q :: l, h, p, hp => by
    rw [List.map_cons, List.nodup_cons] at h
    rw [delL_cons] at hp
    by_cases h2 : q.1 = v
    · rw [if_pos h2] at hp
      intro e
      exact h.1 (by rw [h2, ← e]; exact List.mem_map.2 ⟨p, hp, rfl⟩)
    · rw [if_neg h2] at hp
      rcases List.mem_cons.1 hp with rfl | hp
      · exact h2
      · exact delL_ne h.2 p hp
theorem getL_new {k v : κ} {u : α} : ∀ {l : List (κ × α)}, v ∉ l.map (·.1) → getL k (l ++ [(v, u)]) = if k = v then some u else getL k l := fun {l} h => by
  rw [← putL_new u h]
  exact getL_put k v u l
theorem getL_of_mem {v : κ} {u : α} : ∀ {l : List (κ × α)}, (l.map (·.1)).Nodup → (v, u) ∈ l → getL v l = some u
  | [], _, h => by cases h
  | p :: l, hn, h => by
    rw [List.map_cons, List.nodup_cons] at hn
    rw [getL_cons]
    rcases List.mem_cons.1 h with rfl | h
    · rw [if_pos rfl]
    · rw [if_neg (fun e => hn.1 (by rw [e]; exact List.mem_map.2 ⟨_, h, rfl⟩))]
      exact getL_of_mem hn.2 h
theorem put_keys (v : κ) (u : α) : ∀ l : List (κ × α), (putL v u l).map (·.1) = if v ∈ l.map (·.1) then l.map (·.1) else l.map (·.1) ++ [v]
  | [] => by rw [putL_nil]; rfl
  | p :: l => by
    rw [putL_cons]
    by_cases h : p.1 = v
    · rw [if_pos h, if_pos (by rw [← h]; exact List.mem_cons_self ..), List.map_cons, List.map_cons, h]
    · rw [if_neg h, List.map_cons, put_keys v u l, List.map_cons]
      by_cases h2 : v ∈ l.map (·.1)
      · rw [if_pos h2, if_pos (List.mem_cons_of_mem _ h2)]
      · rw [if_neg h2, if_neg (fun e => (List.mem_cons.1 e).elim (fun e => h e.symm) h2)]
        rfl
theorem put_nodup {v : κ} {u : α} {l : List (κ × α)} (h : (l.map (·.1)).Nodup) : ((putL v u l).map (·.1)).Nodup := by
  rw [put_keys]
  split
  · exact h
  · rename_i hv
    rw [List.nodup_append]
    refine ⟨h, by simp, fun a ha c hc e => ?_⟩
    rw [List.mem_singleton.1 hc] at e
    exact hv (by rw [← e]; exact ha)
theorem get_mem_iff {v : κ} {l : List (κ × α)} : (∃ u, getL v l = some u) ↔ v ∈ l.map (·.1) := by
  constructor
  · rintro ⟨u, h⟩
    exact List.mem_map.2 ⟨_, getL_mem h, rfl⟩
  · exact getL_has
theorem del_get {v : κ} {l : List (κ × α)} (h : (l.map (·.1)).Nodup) : getL v (delL v l) = none := by
  cases hg : getL v (delL v l) with
  | none => rfl
  | some u => exact absurd rfl (delL_ne h _ (getL_mem hg))
theorem del_nodup {v : κ} {l : List (κ × α)} (h : (l.map (·.1)).Nodup) : ((delL v l).map (·.1)).Nodup := h.sublist ((delL_sub v l).map _)
theorem del_same {v u : κ} {l : List (κ × α)} (h : (l.map (·.1)).Nodup) : getL u (delL v l) = if u = v then none else getL u l := by
  by_cases e : u = v
  · rw [if_pos e, e, del_get h]
  · rw [if_neg e, getL_del e]
end
end Go.Proofs.YtflbfdmmfoigaaaGreat
