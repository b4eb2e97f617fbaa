/- Layer 11 (device), the plain law: what was done lasts. -/
import Derived.Test.YtfchenbihepjaaaP11c
namespace Go.Proofs.Ytfchenbihepjaaa
open Go Go.HX
section
variable {κ α : Type} [DecidableEq κ]
theorem getL_nil (v : κ) : getL v ([] : List (κ × α)) = none := rfl
theorem getL_cons (v : κ) (p : κ × α) (l : List (κ × α)) : getL v (p :: l) = if p.1 = v then some p.2 else getL v l := by
  unfold getL
  rw [List.find?_cons]
  by_cases h : p.1 = v <;> simp [h]
theorem putL_nil (v : κ) (u : α) : putL v u [] = [(v, u)] := rfl
theorem putL_cons (v : κ) (u : α) (p : κ × α) (l : List (κ × α)) : putL v u (p :: l) = if p.1 = v then (v, u) :: l else p :: putL v u l := by
  unfold putL
  rw [List.findIdx?_cons]
  by_cases h : p.1 = v
  · simp [h]
  · simp only [h, decide_false, if_false]
    cases l.findIdx? (fun p => decide (p.1 = v)) <;> simp
theorem delL_nil (v : κ) : delL v ([] : List (κ × α)) = [] := rfl
theorem delL_cons (v : κ) (p : κ × α) (l : List (κ × α)) : delL v (p :: l) = if p.1 = v then l else p :: delL v l := by
  unfold delL
  rw [List.findIdx?_cons]
  by_cases h : p.1 = v
  · simp [h]
  · simp only [h, decide_false, if_false]
    cases l.findIdx? (fun p => decide (p.1 = v)) <;> simp
theorem getL_put (k v : κ) (u : α) : ∀ l : List (κ × α), getL k (putL v u l) = if k = v then some u else getL k l
  | [] => by
    rw [putL_nil, getL_cons, getL_nil]
    by_cases h : k = v
    · rw [if_pos h.symm, if_pos h]
    · rw [if_neg (fun e => h e.symm), if_neg h]
  | p :: l => by
    rw [putL_cons]
    by_cases h : p.1 = v
    · rw [if_pos h, getL_cons, getL_cons]
      by_cases h2 : k = v
      · rw [if_pos h2.symm, if_pos h2]
      · rw [if_neg (fun e => h2 e.symm), if_neg h2, if_neg (fun e => h2 (e.symm.trans h))]
    · rw [if_neg h, getL_cons, getL_cons, getL_put k v u l]
      by_cases h2 : p.1 = k
      · rw [if_pos h2, if_pos h2, if_neg (fun e => h (h2.trans e))]
      · rw [if_neg h2, if_neg h2]
theorem putL_new {v : κ} (u : α) : ∀ {l : List (κ × α)}, v ∉ l.map (·.1) → putL v u l = l ++ [(v, u)]
  | [], _ => rfl
  | p :: l, h => by
    rw [List.map_cons, List.mem_cons] at h
    rw [putL_cons, if_neg (fun e => h (.inl e.symm)), putL_new u (fun hx => h (.inr hx))]
    rfl
theorem getL_del {k v : κ} (h : k ≠ v) : ∀ l : List (κ × α), getL k (delL v l) = getL k l
  | [] => rfl
  | p :: l => by
    rw [delL_cons]
    by_cases h2 : p.1 = v
    · rw [if_pos h2, getL_cons, if_neg (fun e => h (e.symm.trans h2))]
    · rw [if_neg h2, getL_cons, getL_cons, getL_del h l]
theorem delL_sub (v : κ) : ∀ l : List (κ × α), (delL v l).Sublist l
  | [] => .slnil
  | p :: l => by
    rw [delL_cons]
    split
    · exact List.sublist_cons_self p l
    · exact (delL_sub v l).cons_cons p
theorem delL_ne {v : κ} : ∀ {l : List (κ × α)}, (l.map (·.1)).Nodup → ∀ p ∈ delL v l, p.1 ≠ v
  | [], _, p, hp => by rw [delL_nil] at hp; cases hp
  | q :: l, h, p, hp => by
    rw [List.map_cons, List.nodup_cons] at h
    rw [delL_cons] at hp
    by_cases h2 : q.1 = v
    · rw [if_pos h2] at hp
      intro e
      exact h.1 (by rw [h2, ← e]; exact List.mem_map.2 ⟨p, hp, rfl⟩)
    · rw [if_neg h2] at hp
      rcases List.mem_cons.1 hp with rfl | hp
      · exact h2
      · exact delL_ne h.2 p hp
theorem getL_new {k v : κ} {u : α} : ∀ {l : List (κ × α)}, v ∉ l.map (·.1) → getL k (l ++ [(v, u)]) = if k = v then some u else getL k l := fun {l} h => by
  rw [← putL_new u h]
  exact getL_put k v u l
theorem getL_of_mem {v : κ} {u : α} : ∀ {l : List (κ × α)}, (l.map (·.1)).Nodup → (v, u) ∈ l → getL v l = some u
  | [], _, h => by cases h
  | p :: l, hn, h => by
    rw [List.map_cons, List.nodup_cons] at hn
    rw [getL_cons]
    rcases List.mem_cons.1 h with rfl | h
    · rw [if_pos rfl]
    · rw [if_neg (fun e => hn.1 (by rw [e]; exact List.mem_map.2 ⟨_, h, rfl⟩))]
      exact getL_of_mem hn.2 h
end
/-- The beginning of one, and behind that the other. -/
def betw (s was next : ByteArray) : Prop := (∃ n : Nat, n ≤ next.size ∧ s = next.extract 0 n ++ was.extract (min n was.size) was.size) ∨ s = next
def blkOf (b : Int × Int) (B : BL) : ByteArray := (getL b B).getD ⟨#[]⟩
def hits (b : Int × Int) (j : JobM) : Prop := j.wr = true ∧ (j.area, j.no) = b
theorem blk_put (b v : Int × Int) (u : ByteArray) (B : BL) : blkOf b (putL v u B) = if b = v then u else blkOf b B := by
  unfold blkOf
  rw [getL_put]
  split <;> rfl
theorem crash1_miss {b : Int × Int} {j : JobM} {q : Int} {B : BL} (h : (j.area, j.no) ≠ b) : blkOf b (crash1 j q B) = blkOf b B := by
  unfold crash1
  split
  · rw [blk_put, if_neg (fun e => h e.symm)]
  · split
    · rw [blk_put, if_neg (fun e => h e.symm)]
    · rfl
theorem crash1_hit {b : Int × Int} {j : JobM} {q : Int} {B : BL} (h : (j.area, j.no) = b) : blkOf b (crash1 j q B) = blkOf b B ∨ betw (blkOf b (crash1 j q B)) (blkOf b B) j.data := by
  unfold crash1
  split
  · rw [blk_put, if_pos h.symm]
    exact .inr (.inr rfl)
  · split
    · rw [blk_put, if_pos h.symm]
      refine .inr (.inl ⟨tornN j.data q, tornN_le _ _, ?_⟩)
      rw [← h]
      rfl
    · exact .inl rfl
theorem crash_keep {b : Int × Int} {jobs : JL} : ∀ (ts ps : List Int) (B : BL), (∀ t ∈ ts, ∀ j, getL t jobs = some j → ¬ hits b j) → blkOf b (crashGo jobs ts ps B) = blkOf b B
  | [], _, _, _ => rfl
  | t :: ts, ps, B, h => by
    rw [crashGo]
    cases hg : getL t jobs with
    | none => exact crash_keep ts ps B (fun t ht => h t (List.mem_cons_of_mem _ ht))
    | some j =>
      have hj := h t (List.mem_cons_self ..) j hg
      dsimp only
      split
      · rename_i hw
        rw [crash_keep ts _ _ (fun t ht => h t (List.mem_cons_of_mem _ ht)), crash1_miss (fun e => hj ⟨hw, e⟩)]
      · exact crash_keep ts ps B (fun t ht => h t (List.mem_cons_of_mem _ ht))
theorem crash_one {b : Int × Int} {jobs : JL} {tk : Int} {next : ByteArray} : ∀ (ts ps : List Int) (B : BL), ts.Nodup → (∀ t ∈ ts, ∀ j, getL t jobs = some j → hits b j → t = tk ∧ j.data = next) →
    blkOf b (crashGo jobs ts ps B) = blkOf b B ∨ (tk ∈ ts ∧ (∃ j, getL tk jobs = some j ∧ hits b j) ∧ betw (blkOf b (crashGo jobs ts ps B)) (blkOf b B) next)
  | [], _, _, _, _ => .inl rfl
  | t :: ts, ps, B, hn, h => by
    rw [List.nodup_cons] at hn
    have h2 : ∀ t ∈ ts, ∀ j, getL t jobs = some j → hits b j → t = tk ∧ j.data = next := fun t ht => h t (List.mem_cons_of_mem _ ht)
    have weak : ∀ {s : ByteArray} {q : List Int} {B' : BL}, blkOf b B' = blkOf b B → (blkOf b (crashGo jobs ts q B') = blkOf b B' ∨ (tk ∈ ts ∧ (∃ j, getL tk jobs = some j ∧ hits b j) ∧ betw (blkOf b (crashGo jobs ts q B')) (blkOf b B') next)) → s = blkOf b (crashGo jobs ts q B') → s = blkOf b B ∨ (tk ∈ t :: ts ∧ (∃ j, getL tk jobs = some j ∧ hits b j) ∧ betw s (blkOf b B) next) := by
      intro s q B' e hc es
      rw [es]
      rcases hc with hc | ⟨h1, h3, h4⟩
      · exact .inl (hc.trans e)
      · exact .inr ⟨List.mem_cons_of_mem _ h1, h3, by rw [← e]; exact h4⟩
    rw [crashGo]
    cases hg : getL t jobs with
    | none => exact weak rfl (crash_one ts ps B hn.2 h2) rfl
    | some j =>
      dsimp only
      by_cases hw : j.wr = true
      · rw [if_pos hw]
        by_cases hb : (j.area, j.no) = b
        · obtain ⟨rfl, rfl⟩ := h t (List.mem_cons_self ..) j hg ⟨hw, hb⟩
          rw [crash_keep ts _ _ (fun t' ht' j' hg' hh => hn.1 (by rw [← (h2 t' ht' j' hg' hh).1]; exact ht'))]
          rcases crash1_hit (q := ps.headD 0) (B := B) hb with e | e
          · exact .inl e
          · exact .inr ⟨List.mem_cons_self .., ⟨j, hg, hw, hb⟩, e⟩
        · exact weak (crash1_miss hb) (crash_one ts _ _ hn.2 h2) rfl
      · rw [if_neg hw]
        exact weak rfl (crash_one ts ps B hn.2 h2) rfl
theorem crash_size {jobs : JL} (hj : ∀ p ∈ jobs, p.2.data.size ≤ 131072) : ∀ (ts ps : List Int) (B : BL), (∀ p ∈ B, p.2.size ≤ 131072) → ∀ p ∈ crashGo jobs ts ps B, p.2.size ≤ 131072
  | [], _, _, h => h
  | t :: ts, ps, B, h => by
    rw [crashGo]
    cases hg : getL t jobs with
    | none => exact crash_size hj ts ps B h
    | some j =>
      dsimp only
      split
      · exact crash_size hj ts _ _ (crash1_size (hj _ (getL_mem hg)) h)
      · exact crash_size hj ts ps B h
/-- What stands between two calls, of the block b: its bytes, the ticket of a write of it (or 0), its bytes then. -/
structure LOk (b : Int × Int) (x : DevM) (was : ByteArray) (tk : Int) (next : ByteArray) (k : Nat) : Prop where
  last0 : 0 ≤ x.last
  last1 : x.last ≤ k
  nd : (x.jobs.map (·.1)).Nodup
  keys : ∀ p ∈ x.jobs, 1 ≤ p.1 ∧ p.1 ≤ x.last
  len : x.jobs.length ≤ 32
  szb : ∀ p ∈ x.blks, p.2.size ≤ 131072
  szj : ∀ p ∈ x.jobs, p.2.data.size ≤ 131072
  was : blkOf b x.blks = was
  one : ∀ p ∈ x.jobs, hits b p.2 → p.1 = tk ∧ p.2.data = next
  tk : tk = 0 ∨ (0 < tk ∧ ∃ j, getL tk x.jobs = some j ∧ hits b j ∧ j.data = next)
  offj : x.off = true → x.jobs = []
  nsz : next.size ≤ 131072
theorem LOk.dev {b : Int × Int} {x : DevM} {was next : ByteArray} {tk : Int} {k : Nat} (h : LOk b x was tk next k) (hk : k ≤ 1000) : DevOk x :=
  ⟨h.last0, by have := h.last1; omega, by have := h.len; omega⟩
theorem LOk.start {b : Int × Int} : LOk b ⟨false, [], [], [], 0⟩ ⟨#[]⟩ 0 ⟨#[]⟩ 0 :=
  ⟨by decide, by decide, .nil, fun p hp => (by cases hp), by decide, fun p hp => (by cases hp), fun p hp => (by cases hp), rfl, fun p hp => (by cases hp), .inl rfl, fun h => rfl, by decide⟩
theorem LOk.later {b : Int × Int} {x : DevM} {was next : ByteArray} {tk : Int} {k : Nat} (h : LOk b x was tk next k) : LOk b x was tk next (k + 1) :=
  { h with last1 := by have := h.last1; omega }
theorem LOk.new {b : Int × Int} {x : DevM} {was next : ByteArray} {tk : Int} {k : Nat} (h : LOk b x was tk next k) : x.last + 1 ∉ x.jobs.map (·.1) := fun hx => by
  obtain ⟨p, hp, e⟩ := List.mem_map.1 hx
  have := (h.keys p hp).2
  omega
/-- A job is asked for, and it is under way. -/
theorem LOk.ask {b : Int × Int} {x : DevM} {was next : ByteArray} {tk : Int} {k : Nat} {j : JobM} (h : LOk b x was tk next k) (hoff : x.off ≠ true) (hs : j.data.size ≤ 131072) (hl : x.jobs.length < 32) (hb : hits b j → ∀ p ∈ x.jobs, ¬ hits b p.2) :
    (hits b j → LOk b { x with last := x.last + 1, jobs := putL (x.last + 1) j x.jobs } was (x.last + 1) j.data (k + 1)) ∧ (¬ hits b j → LOk b { x with last := x.last + 1, jobs := putL (x.last + 1) j x.jobs } was tk next (k + 1)) := by
  have hn := h.new
  rw [putL_new j hn]
  have l0 := h.last0
  have l1 := h.last1
  have hnd : ((x.jobs ++ [(x.last + 1, j)]).map (·.1)).Nodup := by
    rw [List.map_append, List.nodup_append]
    refine ⟨h.nd, by simp, fun a ha c hc e => ?_⟩
    simp at hc
    exact hn (by rw [← hc, ← e]; exact ha)
  have hk : ∀ p ∈ x.jobs ++ [(x.last + 1, j)], 1 ≤ p.1 ∧ p.1 ≤ x.last + 1 := fun p hp => by
    rcases List.mem_append.1 hp with hp | hp
    · have := h.keys p hp
      omega
    · rw [List.mem_singleton.1 hp]
      show 1 ≤ x.last + 1 ∧ x.last + 1 ≤ x.last + 1
      omega
  have hz : ∀ p ∈ x.jobs ++ [(x.last + 1, j)], p.2.data.size ≤ 131072 := fun p hp => by
    rcases List.mem_append.1 hp with hp | hp
    · exact h.szj p hp
    · rw [List.mem_singleton.1 hp]
      exact hs
  have hlen : (x.jobs ++ [(x.last + 1, j)]).length ≤ 32 := by
    rw [List.length_append, List.length_singleton]
    omega
  refine ⟨fun hj => ⟨by show 0 ≤ x.last + 1; omega, by show x.last + 1 ≤ ((k + 1 : Nat) : Int); omega, hnd, hk, hlen, h.szb, hz, h.was, fun p hp hh => ?_, .inr ⟨by omega, j, ?_, hj, rfl⟩, fun e => absurd e hoff, hs⟩, fun hj => ⟨by show 0 ≤ x.last + 1; omega, by show x.last + 1 ≤ ((k + 1 : Nat) : Int); omega, hnd, hk, hlen, h.szb, hz, h.was, fun p hp hh => ?_, ?_, fun e => absurd e hoff, h.nsz⟩⟩
  · rcases List.mem_append.1 hp with hp | hp
    · exact absurd hh (hb hj p hp)
    · rw [List.mem_singleton.1 hp]
      exact ⟨rfl, rfl⟩
  · show getL (x.last + 1) (x.jobs ++ [(x.last + 1, j)]) = some j
    rw [getL_new hn, if_pos rfl]
  · rcases List.mem_append.1 hp with hp | hp
    · exact h.one p hp hh
    · rw [List.mem_singleton.1 hp] at hh
      exact absurd hh hj
  · rcases h.tk with e | ⟨h1, i, h2, h3, h4⟩
    · exact .inl e
    · refine .inr ⟨h1, i, ?_, h3, h4⟩
      show getL tk (x.jobs ++ [(x.last + 1, j)]) = some i
      have := (h.keys _ (getL_mem h2)).2
      rw [getL_new hn, if_neg (show tk ≠ x.last + 1 by dsimp only at this; omega)]
      exact h2
theorem LOk.write {b : Int × Int} {x : DevM} {was next : ByteArray} {tk : Int} {k : Nat} (h : LOk b x was tk next k) (a n : Int) (s : ByteArray) : LOk b (askR x ⟨a, n, true, s⟩).2 was (if (askR x ⟨a, n, true, s⟩).1.2 = 0 ∧ (a, n) = b then (askR x ⟨a, n, true, s⟩).1.1 else tk) (if (askR x ⟨a, n, true, s⟩).1.2 = 0 ∧ (a, n) = b then s else next) (k + 1) := by
  unfold askR
  split
  · exact h.later
  split
  · exact h.later
  split
  · exact h.later
  split
  · exact h.later
  split
  · exact h.later
  rename_i h1 h2 h3 h4 h5
  dsimp only
  dsimp only at h3
  have hb : hits b ⟨a, n, true, s⟩ → ∀ p ∈ x.jobs, ¬ hits b p.2 := fun hj p hp hh => h4 ⟨rfl, p, hp, by
    unfold sameB
    have e : (p.2.area, p.2.no) = (a, n) := hh.2.trans hj.2.symm
    injection e with e1 e2
    rw [hh.1, e1, e2]
    simp⟩
  have hq := h.ask (j := ⟨a, n, true, s⟩) h1 (by show s.size ≤ 131072; omega) (by omega) hb
  by_cases e : (a, n) = b
  · rw [if_pos ⟨rfl, e⟩, if_pos ⟨rfl, e⟩]
    exact hq.1 ⟨rfl, e⟩
  · rw [if_neg (fun hx => e hx.2), if_neg (fun hx => e hx.2)]
    exact hq.2 (fun hx => e hx.2)
theorem LOk.read {b : Int × Int} {x : DevM} {was next : ByteArray} {tk : Int} {k : Nat} (h : LOk b x was tk next k) (a n : Int) : LOk b (askR x ⟨a, n, false, ⟨#[]⟩⟩).2 was tk next (k + 1) := by
  unfold askR
  split
  · exact h.later
  split
  · exact h.later
  split
  · exact h.later
  split
  · exact h.later
  split
  · exact h.later
  rename_i h1 h2 h3 h4 h5
  exact (h.ask (j := ⟨a, n, false, ⟨#[]⟩⟩) h1 (Nat.zero_le _) (by omega) (fun hx => by cases hx.1)).2 (fun hx => by cases hx.1)
theorem LOk.doit {b : Int × Int} {x : DevM} {was next : ByteArray} {tk : Int} {k : Nat} (h : LOk b x was tk next k) (t : Int) : LOk b (doR x t).2 (if (doR x t).1 = 0 ∧ 0 < tk ∧ t = tk then next else was) (if (doR x t).1 = 0 ∧ 0 < tk ∧ t = tk then 0 else tk) next (k + 1) := by
  unfold doR
  split
  · rw [if_neg (fun hx => by cases hx.1), if_neg (fun hx => by cases hx.1)]
    exact h.later
  cases hg : getL t x.jobs with
  | none =>
    dsimp only
    rw [if_neg (fun hx => by cases hx.1), if_neg (fun hx => by cases hx.1)]
    exact h.later
  | some j =>
    rename_i hoff
    dsimp only
    have hm := getL_mem hg
    have hsub := delL_sub t x.jobs
    have l1 := h.last1
    have hnd : ((delL t x.jobs).map (·.1)).Nodup := h.nd.sublist (hsub.map _)
    have hz : ∀ p ∈ (if j.wr = true then putL (j.area, j.no) j.data x.blks else x.blks), p.2.size ≤ 131072 := fun p hp => by
      split at hp
      · rcases mem_putL hp with hp | rfl
        · exact h.szb p hp
        · exact h.szj _ hm
      · exact h.szb p hp
    have base : ∀ (was' : ByteArray) (tk' : Int), blkOf b (if j.wr = true then putL (j.area, j.no) j.data x.blks else x.blks) = was' → (∀ p ∈ delL t x.jobs, hits b p.2 → p.1 = tk' ∧ p.2.data = next) → (tk' = 0 ∨ (0 < tk' ∧ ∃ j, getL tk' (delL t x.jobs) = some j ∧ hits b j ∧ j.data = next)) →
        LOk b { x with jobs := delL t x.jobs, blks := (if j.wr = true then putL (j.area, j.no) j.data x.blks else x.blks), anss := putL t (if j.wr = true then ⟨⟨#[]⟩, false⟩ else ⟨(getL (j.area, j.no) x.blks).getD ⟨#[]⟩, (getL (j.area, j.no) x.blks).isNone⟩) x.anss } was' tk' next (k + 1) := fun was' tk' e1 e2 e3 =>
      ⟨h.last0, by show x.last ≤ ((k + 1 : Nat) : Int); omega, hnd, fun p hp => h.keys p (hsub.subset hp), Nat.le_trans hsub.length_le h.len, hz, fun p hp => h.szj p (hsub.subset hp), e1, e2, e3, fun e => absurd e hoff, h.nsz⟩
    by_cases hh : hits b j
    · obtain ⟨rfl, rfl⟩ := h.one _ hm hh
      have ht0 : 0 < t := by have := (h.keys _ hm).1; dsimp only at this; omega
      dsimp only at ht0 ⊢
      have e : (0 : Int) = 0 ∧ 0 < t ∧ t = t := ⟨rfl, ht0, rfl⟩
      rw [if_pos (c := (0 : Int) = 0 ∧ 0 < t ∧ t = t) (t := j.data) e, if_pos (c := (0 : Int) = 0 ∧ 0 < t ∧ t = t) (t := (0 : Int)) e]
      refine base _ _ ?_ (fun p hp hx => ?_) (.inl rfl)
      · rw [if_pos hh.1, blk_put, if_pos hh.2.symm]
      · exact absurd (h.one p (hsub.subset hp) hx).1 (delL_ne h.nd p hp)
    · have hne : ¬ (0 < tk ∧ t = tk) := fun hx => by
        obtain ⟨h1, rfl⟩ := hx
        rcases h.tk with e | ⟨_, i, h2, h3, _⟩
        · omega
        · rw [hg] at h2
          injection h2 with h2
          rw [h2] at hh
          exact hh h3
      rw [if_neg (c := (0 : Int) = 0 ∧ 0 < tk ∧ t = tk) (t := next) (fun hx => hne hx.2), if_neg (c := (0 : Int) = 0 ∧ 0 < tk ∧ t = tk) (t := (0 : Int)) (fun hx => hne hx.2)]
      refine base _ _ ?_ (fun p hp hx => h.one p (hsub.subset hp) hx) ?_
      · split
        · rename_i hw
          rw [blk_put, if_neg (fun e => hh ⟨hw, e.symm⟩)]
          exact h.was
        · exact h.was
      · rcases h.tk with e | ⟨h1, i, h2, h3, h4⟩
        · exact .inl e
        · exact .inr ⟨h1, i, by rw [getL_del (fun e => hne ⟨h1, e.symm⟩)]; exact h2, h3, h4⟩
theorem LOk.take {b : Int × Int} {x : DevM} {was next : ByteArray} {tk : Int} {k : Nat} (h : LOk b x was tk next k) (t : Int) : LOk b (takeR x t).2 was tk next (k + 1) := by
  have base : ∀ an : AL, LOk b { x with anss := an } was tk next (k + 1) := fun an => by
    have := h.later
    exact ⟨this.last0, this.last1, this.nd, this.keys, this.len, this.szb, this.szj, this.was, this.one, this.tk, this.offj, this.nsz⟩
  unfold takeR
  split
  · exact h.later
  split
  · exact h.later
  split
  · exact base _
  split
  · exact base _
  · exact base _
theorem LOk.on {b : Int × Int} {x : DevM} {was next : ByteArray} {tk : Int} {k : Nat} (h : LOk b x was tk next k) : LOk b (startR x).2 was tk next (k + 1) := by
  unfold startR
  split
  · rename_i ho
    have := h.later
    exact ⟨this.last0, this.last1, this.nd, this.keys, this.len, this.szb, this.szj, this.was, this.one, this.tk, fun e => (by cases e), this.nsz⟩
  · exact h.later
/-- The power goes. -/
theorem LOk.crash {b : Int × Int} {x : DevM} {was next : ByteArray} {tk : Int} {k : Nat} (h : LOk b x was tk next k) {m picks : List Int} (hm : m.Perm (x.jobs.map (·.1))) :
    LOk b ⟨true, crashGo x.jobs m picks x.blks, [], [], x.last⟩ (blkOf b (crashGo x.jobs m picks x.blks)) 0 next (k + 1) ∧ (blkOf b (crashGo x.jobs m picks x.blks) = was ∨ (tk ≠ 0 ∧ betw (blkOf b (crashGo x.jobs m picks x.blks)) was next)) := by
  have l1 := h.last1
  refine ⟨⟨h.last0, by show x.last ≤ ((k + 1 : Nat) : Int); omega, .nil, fun p hp => (by cases hp), Nat.zero_le _, crash_size h.szj m picks x.blks h.szb, fun p hp => (by cases hp), rfl, fun p hp => (by cases hp), .inl rfl, fun _ => rfl, h.nsz⟩, ?_⟩
  have hnd : m.Nodup := hm.nodup_iff.2 h.nd
  rcases crash_one (b := b) (tk := tk) (next := next) m picks x.blks hnd (fun t _ j hg hh => h.one _ (getL_mem hg) hh) with e | ⟨h1, _, h3⟩
  · exact .inl (e.trans h.was)
  · refine .inr ⟨fun e => ?_, by rw [h.was] at h3; exact h3⟩
    obtain ⟨p, hp, ep⟩ := List.mem_map.1 (hm.mem_iff.1 h1)
    have := (h.keys p hp).1
    omega
end Go.Proofs.Ytfchenbihepjaaa
