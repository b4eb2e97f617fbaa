/- Layer 11 (device), the plain law: each call on both. -/
import Derived.Test.YtfchenbihepjaaaL11d
namespace Go.Proofs.Ytfchenbihepjaaa
open Go Go.HX
/-- The program's blocks are the document's. -/
structure BRel (B B' : BL) : Prop where
  nd : (B.map (·.1)).Nodup
  up : UpK B'
  get : ∀ b, getL b B = getL b B'
theorem BRel.put {B B' : BL} (h : BRel B B') (b : Int × Int) (s : ByteArray) : BRel (putL b s B) (layGo b s false B') :=
  ⟨put_nodup h.nd, layF_up h.up, fun c => by rw [getL_put, layF_get, h.get]⟩
theorem up_nodup {l : BL} (h : UpK l) : (l.map (·.1)).Nodup := by
  unfold List.Nodup
  rw [List.pairwise_map]
  exact h.imp (fun {p q} hpq e => by unfold ltK at hpq; rw [e] at hpq; omega)
theorem keys_iff {κ α β : Type} [DecidableEq κ] {l : List (κ × α)} {m : List (κ × β)} (h : ∀ k, (getL k l).isSome = (getL k m).isSome) (k : κ) : k ∈ l.map (·.1) ↔ k ∈ m.map (·.1) := by
  rw [← get_mem_iff, ← get_mem_iff, ← Option.isSome_iff_exists, ← Option.isSome_iff_exists, h]
theorem BRel.perm {B B' : BL} (h : BRel B B') : (B.map (·.1)).Perm (B'.map (·.1)) :=
  (List.perm_ext_iff_of_nodup h.nd (up_nodup h.up)).2 (keys_iff (fun k => by rw [h.get]))
theorem BRel.sorted {B B' : BL} (h : BRel B B') {m : KK} (hm : m.Perm (B.map (·.1))) (hr : m.Pairwise fun p q => p.1 < q.1 ∨ p.1 = q.1 ∧ p.2 ≤ q.2) : m = B'.map (·.1) := by
  refine List.Perm.eq_of_pairwise (le := fun p q : Int × Int => p.1 < q.1 ∨ p.1 = q.1 ∧ p.2 ≤ q.2) (fun a b _ _ h1 h2 => Prod.ext (by omega) (by omega)) hr ?_ (hm.trans h.perm)
  rw [List.pairwise_map]
  exact h.up.imp (fun {p q} hpq => by unfold ltK at hpq; omega)
theorem up_few {l : List Int} {hi : Int} : ∀ (lo : Int) (_ : l.Pairwise (· < ·)) (_ : ∀ x ∈ l, lo ≤ x ∧ x < hi) (_ : lo ≤ hi), (l.length : Int) ≤ hi - lo := by
  induction l with
  | nil => intro lo _ _ h; simp; omega
  | cons x xs ih =>
    intro lo hp hx hl
    obtain ⟨h1, h2⟩ := List.pairwise_cons.1 hp
    have h3 := hx x (List.mem_cons_self ..)
    have := ih (x + 1) h2 (fun y hy => ⟨by have := h1 y hy; omega, (hx y (List.mem_cons_of_mem _ hy)).2⟩) (by omega)
    rw [List.length_cons]
    omega
def okI (p : BI) : Prop := mayB p.1.1 p.1.2 ∧ p.2.size ≤ 131072
def okJ (j : JobD) : Prop := mayB j.area j.no ∧ j.s.size ≤ 131072 ∧ (j.state = 0 → j.none = false)
theorem items_few {l : BL} (h : UpK l) (ho : ∀ p ∈ l, okI p) : l.length ≤ 192 := by
  have h1 : (l.map (fun p => p.1.1 * 64 + p.1.2)).Pairwise (· < ·) := by
    rw [List.pairwise_map]
    refine List.Pairwise.imp_of_mem (fun {p q} hp hq hpq => ?_) h
    have h1 := (ho p hp).1
    have h2 := (ho q hq).1
    unfold mayB at h1 h2
    unfold ltK at hpq
    omega
  have h2 := up_few (hi := 192) 0 h1 (fun x hx => by
    obtain ⟨p, hp, rfl⟩ := List.mem_map.1 hx
    have h1 := (ho p hp).1
    unfold mayB at h1
    omega) (by omega)
  rw [List.length_map] at h2
  omega
theorem get_ok {l : BL} (ho : ∀ p ∈ l, okI p) (b : Int × Int) : ((getL b l).getD ⟨#[]⟩).size ≤ 131072 :=
  getD_size (fun p hp => (ho p hp).2)
theorem lay_ok {l : BL} {b : Int × Int} {s : ByteArray} (ho : ∀ p ∈ l, okI p) (hb : okI (b, s)) : ∀ p ∈ layGo b s false l, okI p := fun p hp => by
  rcases lay_mem _ _ _ _ _ hp with hp | rfl
  · exact ho p hp
  · exact hb
/-! what is under way -/
theorem flight_mem {t : Int} : ∀ {k : Nat} {js : List JobD}, t ∈ flightGo k js ↔ ∃ (i : Nat) (j : JobD), js[i]? = some j ∧ j.state = 0 ∧ t = (k : Int) + i + 1
  | k, [] => by
    constructor
    · intro h; cases h
    · rintro ⟨i, j, h, _⟩; simp at h
  | k, j :: js => by
    have ih := flight_mem (t := t) (k := k + 1) (js := js)
    unfold flightGo
    constructor
    · intro h
      have hr : t ∈ flightGo (k + 1) js → ∃ (i : Nat) (y : JobD), (j :: js)[i]? = some y ∧ y.state = 0 ∧ t = (k : Int) + i + 1 := fun h => by
        obtain ⟨i, y, h1, h2, h3⟩ := ih.1 h
        exact ⟨i + 1, y, h1, h2, by omega⟩
      split at h
      · rename_i hs
        rcases List.mem_cons.1 h with rfl | h
        · exact ⟨0, j, rfl, hs, by simp⟩
        · exact hr h
      · exact hr h
    · rintro ⟨i, y, h1, h2, h3⟩
      cases i with
      | zero =>
        simp at h1
        subst h1
        rw [if_pos h2]
        exact List.mem_cons.2 (.inl (by simpa using h3))
      | succ i =>
        have := ih.2 ⟨i, y, h1, h2, by omega⟩
        split
        · exact List.mem_cons_of_mem _ this
        · exact this
theorem flight_up : ∀ {k : Nat} {js : List JobD}, (flightGo k js).Pairwise (· < ·)
  | _, [] => .nil
  | k, j :: js => by
    have ih := flight_up (k := k + 1) (js := js)
    unfold flightGo
    split
    · refine List.pairwise_cons.2 ⟨fun t ht => ?_, ih⟩
      obtain ⟨i, y, _, _, h3⟩ := flight_mem.1 ht
      omega
    · exact ih
theorem jobAt_iff {jobs : List JobD} {t : Int} {j : JobD} : jobAt jobs t = some j ↔ ∃ i : Nat, jobs[i]? = some j ∧ t = (i : Int) + 1 := by
  constructor
  · intro h
    obtain ⟨h1, h2, h3⟩ := jobAt_get h
    exact ⟨_, h2, by omega⟩
  · rintro ⟨i, h, rfl⟩
    unfold jobAt
    rw [if_pos (by omega), show ((i : Int) + 1 - 1).toNat = i by omega]
    exact h
theorem flight_at {t : Int} {js : List JobD} : t ∈ flightGo 0 js ↔ ∃ j, jobAt js t = some j ∧ j.state = 0 := by
  rw [flight_mem]
  constructor
  · rintro ⟨i, j, h1, h2, h3⟩
    exact ⟨j, jobAt_iff.2 ⟨i, h1, by omega⟩, h2⟩
  · rintro ⟨j, h1, h2⟩
    obtain ⟨i, h3, h4⟩ := jobAt_iff.1 h1
    exact ⟨i, j, h3, h2, by omega⟩
theorem jobAt_app {jobs : List JobD} {t : Int} {j : JobD} : jobAt (jobs ++ [j]) t = if t = (jobs.length : Int) + 1 then some j else jobAt jobs t := by
  unfold jobAt
  by_cases h : t = (jobs.length : Int) + 1
  · rw [if_pos h, if_pos (by omega), show (t - 1).toNat = jobs.length by omega]
    simp
  · rw [if_neg h]
    by_cases h1 : 1 ≤ t
    · rw [if_pos h1, if_pos h1]
      by_cases h2 : (t - 1).toNat < jobs.length
      · rw [List.getElem?_append_left h2]
      · rw [List.getElem?_eq_none (by rw [List.length_append, List.length_singleton]; omega), List.getElem?_eq_none (by omega)]
    · rw [if_neg h1, if_neg h1]
theorem jobAt_set {jobs : List JobD} {t u : Int} {j y : JobD} (h : jobAt jobs t = some j) : jobAt (jobs.set (t - 1).toNat y) u = if u = t then some y else jobAt jobs u := by
  obtain ⟨t1, hg, hk⟩ := jobAt_get h
  have hl := (List.getElem?_eq_some_iff.1 hg).1
  unfold jobAt
  by_cases h1 : 1 ≤ u
  · rw [if_pos h1, if_pos h1, List.getElem?_set]
    by_cases h2 : u = t
    · subst h2
      rw [if_pos rfl, if_pos rfl, if_pos hl]
    · rw [if_neg h2, if_neg (by omega)]
  · rw [if_neg h1, if_neg h1, if_neg (by omega)]
def asJob (j : JobD) : Option JobM := if j.state = 0 then some ⟨j.area, j.no, j.wr, j.s⟩ else none
def asAns (j : JobD) : Option AnsM := if j.state = 1 then some ⟨j.s, j.none⟩ else none
/-- The program's device is the document's, after so many calls. -/
structure Rel11 (x : DevM) (m : DocM) (k : Nat) : Prop where
  off : x.off = m.off
  last : x.last = m.jobs.length
  lk : m.jobs.length ≤ k
  b : BRel x.blks m.items
  jn : (x.jobs.map (·.1)).Nodup
  jobs : ∀ t, getL t x.jobs = (jobAt m.jobs t).bind asJob
  an : (x.anss.map (·.1)).Nodup
  anss : ∀ t, getL t x.anss = (jobAt m.jobs t).bind asAns
  oki : ∀ p ∈ m.items, okI p
  okj : ∀ j ∈ m.jobs, okJ j
theorem Rel11.start : Rel11 ⟨false, [], [], [], 0⟩ ⟨false, [], []⟩ 0 :=
  ⟨rfl, rfl, Nat.le_refl _, ⟨.nil, .nil, fun _ => rfl⟩, .nil, fun t => by unfold jobAt; split <;> rfl, .nil, fun t => by unfold jobAt; split <;> rfl, fun p hp => (by cases hp), fun p hp => (by cases hp)⟩
section
variable {x : DevM} {m : DocM} {k : Nat}
theorem Rel11.later (h : Rel11 x m k) : Rel11 x m (k + 1) := { h with lk := by have := h.lk; omega }
theorem Rel11.flight (h : Rel11 x m k) : (flightGo 0 m.jobs).Perm (x.jobs.map (·.1)) := by
  refine (List.perm_ext_iff_of_nodup (flight_up.imp (fun hab => by omega)) h.jn).2 (fun t => ?_)
  rw [flight_at, ← get_mem_iff, h.jobs]
  constructor
  · rintro ⟨j, h1, h2⟩
    exact ⟨_, by rw [h1, Option.bind_some, asJob, if_pos h2]⟩
  · rintro ⟨u, hu⟩
    obtain ⟨j, h1, h2⟩ := Option.bind_eq_some_iff.1 hu
    unfold asJob at h2
    split at h2
    · exact ⟨j, h1, by assumption⟩
    · cases h2
theorem Rel11.sorted (h : Rel11 x m k) {l : List Int} (hl : l.Perm (x.jobs.map (·.1))) (hs : l.Pairwise (· ≤ ·)) : l = flightGo 0 m.jobs :=
  List.Perm.eq_of_pairwise (fun a b _ _ h1 h2 => by omega) hs (flight_up.imp (fun hab => by omega)) (hl.trans h.flight.symm)
theorem Rel11.len (h : Rel11 x m k) : x.jobs.length = (flightGo 0 m.jobs).length := by
  have := h.flight.length_eq
  rw [List.length_map] at this
  exact this.symm
theorem Rel11.dev (h : Rel11 x m k) (hk : k ≤ 400) : DevOk x := by
  have h1 := h.last
  have h2 := h.lk
  have h3 := h.len
  have h4 := flight_len 0 m.jobs
  exact ⟨by omega, by omega, by omega⟩
theorem Rel11.few (h : Rel11 x m k) : m.items.length ≤ 192 := items_few h.b.up h.oki
theorem Rel11.blks (h : Rel11 x m k) : x.blks.length ≤ 192 := by
  have h1 := h.b.perm.length_eq
  have h2 := h.few
  rw [List.length_map, List.length_map] at h1
  omega
theorem Rel11.on (h : Rel11 x m k) : (startR x).1 = (if m.off = true then 0 else 10) ∧ Rel11 (startR x).2 { m with off := false } (k + 1) := by
  have hl := h.later
  unfold startR
  rw [h.off]
  split
  · exact ⟨rfl, { hl with off := rfl }⟩
  · rename_i ho
    refine ⟨rfl, { hl with off := ?_ }⟩
    rw [h.off]
    simpa using ho
theorem Rel11.busy (h : Rel11 x m k) (a n : Int) (wr : Bool) (s : ByteArray) : (∃ p ∈ x.jobs, sameB ⟨a, n, wr, s⟩ p.2 = true) ↔ ∃ j ∈ m.jobs, busyJ a n j := by
  constructor
  · rintro ⟨⟨t, p⟩, hp, hs⟩
    have h1 := getL_of_mem h.jn hp
    rw [h.jobs] at h1
    obtain ⟨j, h2, h3⟩ := Option.bind_eq_some_iff.1 h1
    obtain ⟨_, h4, _⟩ := jobAt_get h2
    unfold asJob at h3
    split at h3
    · rename_i h0
      injection h3 with h3
      subst h3
      unfold sameB at hs
      simp at hs
      exact ⟨j, List.mem_of_getElem? h4, h0, hs.1, hs.2.1, hs.2.2⟩
    · cases h3
  · rintro ⟨j, hj, h0, h1, h2, h3⟩
    obtain ⟨i, hi⟩ := List.getElem?_of_mem hj
    have h4 : getL ((i : Int) + 1) x.jobs = some ⟨j.area, j.no, j.wr, j.s⟩ := by
      rw [h.jobs, jobAt_iff.2 ⟨i, hi, rfl⟩, Option.bind_some, asJob, if_pos h0]
    refine ⟨_, getL_mem h4, ?_⟩
    unfold sameB
    simp [h1, h2, h3]
theorem Rel11.ask (h : Rel11 x m k) (a n : Int) (wr : Bool) (s : ByteArray) : (askR x ⟨a, n, wr, s⟩).1 = (askD m a n wr s).1 ∧ Rel11 (askR x ⟨a, n, wr, s⟩).2 (askD m a n wr s).2 (k + 1) := by
  have hb := h.busy a n wr s
  have hl := h.len
  have hlast := h.last
  have hlk := h.lk
  unfold askR askD
  dsimp only
  rw [h.off]
  by_cases h1 : m.off = true
  · rw [if_pos h1, if_pos h1]
    exact ⟨rfl, h.later⟩
  rw [if_neg h1, if_neg h1]
  by_cases h2 : ¬ mayB a n
  · rw [if_pos h2, if_pos h2]
    exact ⟨rfl, h.later⟩
  rw [if_neg h2, if_neg h2]
  by_cases h3 : 131072 < s.size
  · rw [if_pos h3, if_pos h3]
    exact ⟨rfl, h.later⟩
  rw [if_neg h3, if_neg h3]
  by_cases h4 : wr = true ∧ ∃ j ∈ m.jobs, busyJ a n j
  · rw [if_pos h4, if_pos ⟨h4.1, hb.2 h4.2⟩]
    exact ⟨rfl, h.later⟩
  rw [if_neg h4, if_neg (fun e => h4 ⟨e.1, hb.1 e.2⟩), hl]
  by_cases h5 : 32 ≤ (flightGo 0 m.jobs).length
  · rw [if_pos h5, if_pos h5]
    exact ⟨rfl, h.later⟩
  rw [if_neg h5, if_neg h5]
  refine ⟨by rw [hlast], rfl, ?_, ?_, h.b, put_nodup h.jn, fun t => ?_, h.an, fun t => ?_, h.oki, fun j hj => ?_⟩
  · show x.last + 1 = ((m.jobs ++ [_]).length : Int)
    rw [List.length_append, List.length_singleton]
    omega
  · show (m.jobs ++ [_]).length ≤ k + 1
    rw [List.length_append, List.length_singleton]
    omega
  · show getL t (putL _ _ _) = (jobAt (m.jobs ++ [_]) t).bind asJob
    rw [getL_put, jobAt_app, hlast]
    split
    · rfl
    · exact h.jobs t
  · show getL t x.anss = (jobAt (m.jobs ++ [_]) t).bind asAns
    rw [jobAt_app, h.anss]
    split
    · rename_i e
      have : jobAt m.jobs t = none := by
        cases hj : jobAt m.jobs t with
        | none => rfl
        | some j =>
          obtain ⟨i, h6, h7⟩ := jobAt_iff.1 hj
          have := (List.getElem?_eq_some_iff.1 h6).1
          omega
      rw [this]
      rfl
    · rfl
  · rcases List.mem_append.1 hj with hj | hj
    · exact h.okj j hj
    · rw [List.mem_singleton.1 hj]
      exact ⟨Classical.not_not.1 h2, by show s.size ≤ 131072; omega, fun _ => rfl⟩
end
end Go.Proofs.Ytfchenbihepjaaa
