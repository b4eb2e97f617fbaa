/- Layer 11 (device), the plain law: doing, taking, crashes on both. -/
import Derived.Test.YtfchenbihepjaaaL11e
namespace Go.Proofs.Ytfchenbihepjaaa
open Go Go.HX
section
variable {κ α : Type} [DecidableEq κ]
theorem del_nodup {v : κ} {l : List (κ × α)} (h : (l.map (·.1)).Nodup) : ((delL v l).map (·.1)).Nodup := h.sublist ((delL_sub v l).map _)
theorem del_same {v u : κ} {l : List (κ × α)} (h : (l.map (·.1)).Nodup) : getL u (delL v l) = if u = v then none else getL u l := by
  by_cases e : u = v
  · rw [if_pos e, e, del_get h]
  · rw [if_neg e, getL_del e]
end
theorem crash_sim {jobs : JL} : ∀ (js : List JobD) (k : Nat) (ps : List Int) (B B' : BL), BRel B B' → (∀ (i : Nat) (j : JobD), js[i]? = some j → getL ((k : Int) + i + 1) jobs = asJob j) → BRel (crashGo jobs (flightGo k js) ps B) (crashDGo js ps B')
  | [], k, ps, B, B', h, _ => h
  | j :: js, k, ps, B, B', h, hj => by
    have hr : ∀ (i : Nat) (y : JobD), js[i]? = some y → getL (((k + 1 : Nat) : Int) + i + 1) jobs = asJob y := fun i y hy => by
      have := hj (i + 1) y hy
      rw [← this]
      congr 1
      omega
    unfold flightGo crashDGo
    by_cases h0 : j.state = 0
    · have hg := hj 0 j rfl
      rw [asJob, if_pos h0, show (k : Int) + ((0 : Nat) : Int) + 1 = (k : Int) + 1 by omega] at hg
      rw [if_pos h0, crash_cons hg]
      dsimp only
      by_cases hw : j.wr = true
      · rw [if_pos hw, if_pos ⟨h0, hw⟩]
        refine crash_sim js (k + 1) ps.tail _ _ ?_ hr
        unfold crash1 crashD1
        dsimp only
        rw [h.get]
        split
        · exact h.put _ _
        · split
          · exact h.put _ _
          · exact h
      · rw [if_neg hw, if_neg (fun e => hw e.2)]
        exact crash_sim js (k + 1) ps _ _ h hr
    · rw [if_neg h0, if_neg (fun e => h0 e.1)]
      exact crash_sim js (k + 1) ps _ _ h hr
theorem crashD_ok : ∀ (js : List JobD) (ps : List Int) (B : BL), (∀ p ∈ B, okI p) → (∀ j ∈ js, okJ j) → ∀ p ∈ crashDGo js ps B, okI p
  | [], _, _, h, _ => h
  | j :: js, ps, B, h, hj => by
    have hj0 := hj j (List.mem_cons_self ..)
    have hr : ∀ y ∈ js, okJ y := fun y hy => hj y (List.mem_cons_of_mem _ hy)
    unfold crashDGo
    split
    · refine crashD_ok js _ _ ?_ hr
      unfold crashD1
      split
      · exact lay_ok h ⟨hj0.1, hj0.2.1⟩
      · split
        · refine lay_ok h ⟨hj0.1, ?_⟩
          have h1 := tornB_size ((getL (j.area, j.no) B).getD ⟨#[]⟩) j.s (ps.headD 0)
          have h2 := get_ok h (j.area, j.no)
          have h3 := hj0.2.1
          show (tornB ((getL (j.area, j.no) B).getD ⟨#[]⟩) j.s (ps.headD 0)).size ≤ 131072
          omega
        · exact h
    · exact crashD_ok js _ _ h hr
section
variable {x : DevM} {m : DocM} {k : Nat}
theorem Rel11.crash (h : Rel11 x m k) (picks : List Int) : Rel11 ⟨true, crashGo x.jobs (flightGo 0 m.jobs) picks x.blks, [], [], x.last⟩ ⟨true, crashDGo m.jobs picks m.items, m.jobs.map goneJ⟩ (k + 1) := by
  have hat : ∀ t j, jobAt (m.jobs.map goneJ) t = some j → j.state = 2 := fun t j hj => by
    obtain ⟨_, h2, _⟩ := jobAt_get hj
    rw [List.getElem?_map] at h2
    obtain ⟨y, _, h3⟩ := Option.map_eq_some_iff.1 h2
    rw [← h3]
    rfl
  have hl := h.lk
  refine ⟨rfl, by show x.last = ((m.jobs.map goneJ).length : Int); rw [List.length_map]; exact h.last, by show (m.jobs.map goneJ).length ≤ k + 1; rw [List.length_map]; omega, crash_sim m.jobs 0 picks _ _ h.b (fun i j hj => ?_), .nil, fun t => ?_, .nil, fun t => ?_, crashD_ok m.jobs picks m.items h.oki h.okj, fun j hj => ?_⟩
  · rw [h.jobs, jobAt_iff.2 ⟨i, hj, by omega⟩, Option.bind_some]
  · show none = (jobAt (m.jobs.map goneJ) t).bind asJob
    cases hj : jobAt (m.jobs.map goneJ) t with
    | none => rfl
    | some j =>
      have := hat t j hj
      rw [Option.bind_some, asJob, if_neg (by omega)]
  · show none = (jobAt (m.jobs.map goneJ) t).bind asAns
    cases hj : jobAt (m.jobs.map goneJ) t with
    | none => rfl
    | some j =>
      have := hat t j hj
      rw [Option.bind_some, asAns, if_neg (by omega)]
  · obtain ⟨y, hy, rfl⟩ := List.mem_map.1 hj
    obtain ⟨h1, h2, _⟩ := h.okj y hy
    exact ⟨h1, h2, fun e => by cases e⟩
theorem Rel11.take (h : Rel11 x m k) (t : Int) : (takeR x t).1 = (takeD m t).1 ∧ Rel11 (takeR x t).2 (takeD m t).2 (k + 1) := by
  have hl := h.later
  have hj := h.jobs t
  have ha := h.anss t
  unfold takeR takeD
  have ho := h.off
  by_cases h1 : m.off = true
  · rw [if_pos h1, if_pos (ho.trans h1)]
    exact ⟨rfl, hl⟩
  rw [if_neg h1, if_neg (fun e => h1 (ho.symm.trans e))]
  have gone : getL t x.anss = none → Rel11 { x with anss := delL t x.anss } m (k + 1) := fun hn => by
    refine { hl with an := del_nodup h.an, anss := fun u => ?_ }
    show getL u (delL t x.anss) = _
    rw [del_same h.an, ← h.anss]
    split
    · rename_i e
      rw [e, hn]
    · rfl
  cases hat : jobAt m.jobs t with
  | none =>
    rw [hat] at hj ha
    have hj : getL t x.jobs = none := hj
    have ha : getL t x.anss = none := ha
    rw [hj, ha]
    exact ⟨rfl, gone ha⟩
  | some j =>
    rw [hat, Option.bind_some] at hj ha
    dsimp only
    by_cases s0 : j.state = 0
    · rw [asJob, if_pos s0] at hj
      rw [hj, if_pos s0]
      exact ⟨rfl, hl⟩
    rw [asJob, if_neg s0] at hj
    rw [hj, if_neg s0]
    by_cases s1 : j.state = 1
    · rw [asAns, if_pos s1] at ha
      rw [ha, if_pos s1]
      have hrel : Rel11 { x with anss := delL t x.anss } { m with jobs := m.jobs.set (t - 1).toNat { j with state := 2 } } (k + 1) := by
        refine ⟨h.off, by show x.last = ((m.jobs.set _ _).length : Int); rw [List.length_set]; exact h.last, by show (m.jobs.set _ _).length ≤ k + 1; rw [List.length_set]; exact hl.lk, h.b, h.jn, fun u => ?_, del_nodup h.an, fun u => ?_, h.oki, fun y hy => ?_⟩
        · show getL u x.jobs = (jobAt (m.jobs.set _ _) u).bind asJob
          rw [jobAt_set hat, h.jobs]
          split
          · rename_i e
            rw [e, hat, Option.bind_some, Option.bind_some, asJob, if_neg s0, asJob, if_neg (show ¬ (2 : Int) = 0 by decide)]
          · rfl
        · show getL u (delL t x.anss) = (jobAt (m.jobs.set _ _) u).bind asAns
          rw [jobAt_set hat, del_same h.an, h.anss]
          split
          · rw [Option.bind_some, asAns, if_neg (show ¬ (2 : Int) = 1 by decide)]
          · rfl
        · rcases List.mem_or_eq_of_mem_set hy with hy | rfl
          · exact h.okj y hy
          · obtain ⟨i, hi, _⟩ := jobAt_iff.1 hat
            obtain ⟨h2, h3, _⟩ := h.okj j (List.mem_of_getElem? hi)
            exact ⟨h2, h3, fun e => by cases e⟩
      dsimp only
      by_cases hn : j.none = true
      · rw [if_pos hn, if_pos hn]
        exact ⟨rfl, hrel⟩
      · rw [if_neg hn, if_neg hn]
        exact ⟨rfl, hrel⟩
    · rw [asAns, if_neg s1] at ha
      rw [ha, if_neg s1]
      exact ⟨rfl, gone ha⟩
theorem Rel11.doit (h : Rel11 x m k) (t : Int) : (doR x t).1 = (doD m t).1 ∧ Rel11 (doR x t).2 (doD m t).2 (k + 1) := by
  have hl := h.later
  have hj := h.jobs t
  unfold doR doD
  have ho := h.off
  by_cases h1 : m.off = true
  · rw [if_pos h1, if_pos (ho.trans h1)]
    exact ⟨rfl, hl⟩
  rw [if_neg h1, if_neg (fun e => h1 (ho.symm.trans e))]
  cases hat : jobAt m.jobs t with
  | none =>
    rw [hat] at hj
    have hj : getL t x.jobs = none := hj
    rw [hj]
    exact ⟨rfl, hl⟩
  | some j =>
    rw [hat, Option.bind_some] at hj
    dsimp only
    by_cases s0 : j.state = 0
    · rw [asJob, if_pos s0] at hj
      rw [hj, if_pos s0]
      dsimp only
      obtain ⟨i, hi, _⟩ := jobAt_iff.1 hat
      obtain ⟨o1, o2, o3⟩ := h.okj j (List.mem_of_getElem? hi)
      refine ⟨rfl, ho, ?_, ?_, ?_, del_nodup h.jn, fun u => ?_, put_nodup h.an, fun u => ?_, fun p hp => ?_, fun y hy => ?_⟩
      · show x.last = ((m.jobs.set _ _).length : Int)
        rw [List.length_set]
        exact h.last
      · show (m.jobs.set _ _).length ≤ k + 1
        rw [List.length_set]
        exact hl.lk
      · show BRel (if j.wr = true then _ else _) (if j.wr = true then _ else _)
        split
        · exact h.b.put _ _
        · exact h.b
      · show getL u (delL t x.jobs) = (jobAt (m.jobs.set _ _) u).bind asJob
        rw [jobAt_set hat, del_same h.jn, h.jobs]
        split
        · rw [Option.bind_some, asJob, doneJ]
          split <;> rw [if_neg (show ¬ (1 : Int) = 0 by decide)]
        · rfl
      · show getL u (putL t _ x.anss) = (jobAt (m.jobs.set _ _) u).bind asAns
        rw [jobAt_set hat, getL_put, h.anss]
        split
        · rw [Option.bind_some, asAns, doneJ, h.b.get]
          split
          · rw [if_pos rfl, o3 s0]
          · rw [if_pos rfl]
            cases getL (j.area, j.no) m.items <;> rfl
        · rfl
      · have hp : p ∈ (if j.wr = true then layGo (j.area, j.no) j.s false m.items else m.items) := hp
        split at hp
        · exact lay_ok h.oki ⟨o1, o2⟩ p hp
        · exact h.oki p hp
      · rcases List.mem_or_eq_of_mem_set hy with hy | rfl
        · exact h.okj y hy
        · unfold doneJ
          split
          · exact ⟨o1, Nat.zero_le _, fun e => by cases e⟩
          · exact ⟨o1, get_ok h.oki _, fun e => by cases e⟩
    · rw [asJob, if_neg s0] at hj
      rw [hj, if_neg s0]
      exact ⟨rfl, hl⟩
theorem Rel11.szb (h : Rel11 x m k) : ∀ p ∈ x.blks, p.2.size ≤ 131072 := fun p hp => by
  have h1 := getL_of_mem (v := p.1) (u := p.2) h.b.nd hp
  rw [h.b.get] at h1
  exact (h.oki _ (getL_mem h1)).2
theorem Rel11.szj (h : Rel11 x m k) : ∀ p ∈ x.jobs, p.2.data.size ≤ 131072 := fun p hp => by
  have h1 := getL_of_mem (v := p.1) (u := p.2) h.jn hp
  rw [h.jobs] at h1
  obtain ⟨j, h2, h3⟩ := Option.bind_eq_some_iff.1 h1
  obtain ⟨_, h4, _⟩ := jobAt_get h2
  unfold asJob at h3
  split at h3
  · injection h3 with h3
    rw [← h3]
    exact (h.okj j (List.mem_of_getElem? h4)).2.1
  · cases h3
end
end Go.Proofs.Ytfchenbihepjaaa
