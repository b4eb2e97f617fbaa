/- Layer 29 (meter): the busiest key, those that took long, kinds: plain laws. -/
import Derived.Test.YtojopmkekimpjaaL29
namespace Go.Proofs.Ytojopmkekimpjaa
open Go Go.HX
set_option maxRecDepth 4000
set_option maxHeartbeats 1000000
/-! ### the order of keys -/
theorem bl_irrefl : ∀ a : List UInt8, Op.bytesLess a a = false
  | [] => rfl
  | x :: xs => by
    unfold Op.bytesLess
    rw [bl_irrefl xs]
    simp
theorem bl_cons {x y : UInt8} {xs ys : List UInt8} : Op.bytesLess (x :: xs) (y :: ys) = true ↔ x.toNat < y.toNat ∨ x = y ∧ Op.bytesLess xs ys = true := by
  rw [Op.bytesLess, Bool.or_eq_true, Bool.and_eq_true, decide_eq_true_eq, beq_iff_eq, UInt8.lt_iff_toNat_lt]
theorem bl_trans : ∀ {a b c : List UInt8}, Op.bytesLess a b = true → Op.bytesLess b c = true → Op.bytesLess a c = true
  | [], [], _, h, _ => by simp [Op.bytesLess] at h
  | _ :: _, [], _, h, _ => by simp [Op.bytesLess] at h
  | _, _ :: _, [], _, h => by simp [Op.bytesLess] at h
  | [], _ :: _, _ :: _, _, _ => rfl
  | x :: xs, y :: ys, z :: zs, h1, h2 => by
    rw [bl_cons] at h1 h2 ⊢
    rcases h1 with h1 | ⟨rfl, h1⟩
    · rcases h2 with h2 | ⟨rfl, h2⟩
      · exact .inl (by omega)
      · exact .inl h1
    · rcases h2 with h2 | ⟨rfl, h2⟩
      · exact .inl h2
      · exact .inr ⟨rfl, bl_trans h1 h2⟩
theorem bl_tri : ∀ {a b : List UInt8}, ¬ Op.bytesLess a b = true → ¬ Op.bytesLess b a = true → a = b
  | [], [], _, _ => rfl
  | [], _ :: _, h, _ => absurd rfl h
  | _ :: _, [], _, h => absurd rfl h
  | x :: xs, y :: ys, h1, h2 => by
    rw [bl_cons] at h1 h2
    have hxy : x = y := UInt8.toNat_inj.1 (by
      have := fun h => h1 (.inl h)
      have := fun h => h2 (.inl h)
      omega)
    subst hxy
    rw [bl_tri (fun h => h1 (.inr ⟨rfl, h⟩)) (fun h => h2 (.inr ⟨rfl, h⟩))]
def less (a b : ByteArray) : Prop := Op.bytesLess a.toList b.toList = true
instance (a b : ByteArray) : Decidable (less a b) := inferInstanceAs (Decidable (_ = _))
theorem less_tri {a b : ByteArray} (h1 : ¬ less a b) (h2 : ¬ less b a) : a = b := by
  have h := bl_tri h1 h2
  have h3 := ba_toList a b
  rw [h] at h3
  simpa using h3
/-- Is one busier than the other? -/
def beats (p q : ByteArray × Int) : Prop := q.2 < p.2 ∨ p.2 = q.2 ∧ less p.1 q.1
instance (p q : ByteArray × Int) : Decidable (beats p q) := inferInstanceAs (Decidable (_ ∨ _))
theorem beats_irrefl (p : ByteArray × Int) : ¬ beats p p := fun h => by
  rcases h with h | ⟨_, h⟩
  · omega
  · unfold less at h
    rw [bl_irrefl] at h
    cases h
theorem beats_trans {p q r : ByteArray × Int} (h1 : beats p q) (h2 : beats q r) : beats p r := by
  rcases h1 with h1 | ⟨e1, h1⟩
  · rcases h2 with h2 | ⟨e2, h2⟩
    · exact .inl (by omega)
    · exact .inl (by omega)
  · rcases h2 with h2 | ⟨e2, h2⟩
    · exact .inl (by omega)
    · exact .inr ⟨by omega, bl_trans h1 h2⟩
theorem beats_tri {p q : ByteArray × Int} (h1 : ¬ beats p q) (h2 : ¬ beats q p) : p = q := by
  have e : p.2 = q.2 := by
    have a1 : ¬ q.2 < p.2 := fun h => h1 (.inl h)
    have a2 : ¬ p.2 < q.2 := fun h => h2 (.inl h)
    omega
  have e2 : p.1 = q.1 := less_tri (fun h => h1 (.inr ⟨e, h⟩)) (fun h => h2 (.inr ⟨e.symm, h⟩))
  exact Prod.ext e2 e
/-- The busiest of some, and none. -/
def Best (L : List (ByteArray × Int)) (r : ByteArray × Int) : Prop := (r = (⟨#[]⟩, 0) ∨ r ∈ L) ∧ ¬ beats (⟨#[]⟩, 0) r ∧ ∀ x ∈ L, ¬ beats x r
theorem best_none : Best [] (⟨#[]⟩, 0) := ⟨.inl rfl, beats_irrefl _, fun x hx => by cases hx⟩
theorem best_next {L : List (ByteArray × Int)} {r x : ByteArray × Int} (h : Best L r) : Best (L ++ [x]) (if beats x r then x else r) := by
  obtain ⟨h1, h2, h3⟩ := h
  by_cases hb : beats x r
  · rw [if_pos hb]
    refine ⟨.inr (by simp), fun h => h2 (beats_trans h hb), fun y hy => ?_⟩
    rcases List.mem_append.1 hy with hy | hy
    · exact fun h => h3 y hy (beats_trans h hb)
    · rw [List.mem_singleton.1 hy]; exact beats_irrefl x
  · rw [if_neg hb]
    refine ⟨h1.imp id (fun h => List.mem_append_left _ h), h2, fun y hy => ?_⟩
    rcases List.mem_append.1 hy with hy | hy
    · exact h3 y hy
    · rw [List.mem_singleton.1 hy]; exact hb
/-- It goes by which there are alone. -/
theorem best_same {L M : List (ByteArray × Int)} {r s : ByteArray × Int} (hr : Best L r) (hs : Best M s) (h : ∀ x, x ∈ L ↔ x ∈ M) : r = s := by
  refine beats_tri ?_ ?_
  · rcases hr.1 with rfl | hm
    · exact hs.2.1
    · exact hs.2.2 r ((h r).1 hm)
  · rcases hs.1 with rfl | hm
    · exact hr.2.1
    · exact hr.2.2 s ((h s).2 hm)
/-! ### how many of each key -/
def cntK (l : List EvM) (k : ByteArray) : Nat := l.countP fun e => decide (e.key = k)
theorem cntK_next {l : List EvM} {i : Nat} {e : EvM} (he : l[i]? = some e) (k : ByteArray) : cntK (l.take (i + 1)) k = cntK (l.take i) k + if e.key = k then 1 else 0 := by
  rw [take_next he]
  unfold cntK
  rw [List.countP_append, List.countP_cons, List.countP_nil]
  by_cases h : e.key = k
  · rw [if_pos h, if_pos (by simpa using h)]
  · rw [if_neg h, if_neg (by simpa using h)]
theorem cntK_bnd (l : List EvM) (k : ByteArray) : cntK l k ≤ l.length := List.countP_le_length
/-- One more of a key. -/
def putC (k : ByteArray) : List (ByteArray × Int) → List (ByteArray × Int)
  | [] => [(k, 1)]
  | (a, n) :: m => if a = k then (a, n + 1) :: m else (a, n) :: putC k m
def getC (k : ByteArray) : List (ByteArray × Int) → Int
  | [] => 0
  | (a, n) :: m => if a = k then n else getC k m
def kvC (m : List (ByteArray × Int)) : List (ByteArray × Value) := m.map fun p => (p.1, .int .i64 p.2)
theorem kvAt_cons (k a : ByteArray) (u : Value) (m : List (ByteArray × Value)) : kvAt k ((a, u) :: m) = if a = k then some 0 else (kvAt k m).map (· + 1) := by
  unfold kvAt
  rw [List.findIdx?_cons]
  by_cases h : a = k
  · simp [h]
  · simp [h]
theorem kvGet_C (k : ByteArray) : ∀ m : List (ByteArray × Int), lkV (.int .i64 0) false (kvGet k (kvC m)) = .int .i64 (getC k m)
  | [] => rfl
  | (a, n) :: m => by
    have ih := kvGet_C k m
    unfold kvGet at ih ⊢
    show lkV _ _ ((kvAt k ((a, Value.int .i64 n) :: kvC m)).bind _) = _
    rw [kvAt_cons]
    unfold getC
    by_cases h : a = k
    · rw [if_pos h, if_pos h]; rfl
    · rw [if_neg h, if_neg h, ← ih]
      cases kvAt k (kvC m) with
      | none => rfl
      | some j => rfl
theorem kvPut_C (k : ByteArray) : ∀ m : List (ByteArray × Int), kvPut k (.int .i64 (getC k m + 1)) (kvC m) = kvC (putC k m)
  | [] => rfl
  | (a, n) :: m => by
    have ih := kvPut_C k m
    unfold kvPut at ih ⊢
    show (match kvAt k ((a, Value.int .i64 n) :: kvC m) with | some i => ((a, Value.int .i64 n) :: kvC m).set i _ | none => _) = _
    rw [kvAt_cons]
    unfold getC putC
    by_cases h : a = k
    · rw [if_pos h, if_pos h, if_pos h]; subst h; rfl
    · rw [if_neg h, if_neg h, if_neg h]
      show _ = (a, Value.int .i64 n) :: kvC (putC k m)
      rw [← ih]
      cases kvAt k (kvC m) with
      | none => rfl
      | some j => rfl
def cntsE (l : List EvM) : List (ByteArray × Int) := l.foldl (fun m e => putC e.key m) []
theorem cnts_next {l : List EvM} {i : Nat} {e : EvM} (he : l[i]? = some e) : cntsE (l.take (i + 1)) = putC e.key (cntsE (l.take i)) := by
  rw [take_next he]
  unfold cntsE
  rw [List.foldl_append]
  rfl
theorem putC_mem {k : ByteArray} : ∀ {m : List (ByteArray × Int)} (a : ByteArray) (n : Int), (m.map Prod.fst).Nodup → ((a, n) ∈ putC k m ↔ (a ≠ k ∧ (a, n) ∈ m) ∨ (a = k ∧ n = getC k m + 1))
  | [], a, n, _ => by
    unfold putC getC
    rw [List.mem_singleton, Prod.mk.injEq]
    simp
  | (b, c) :: m, a, n, hd => by
    rw [List.map_cons, List.nodup_cons] at hd
    have ih := putC_mem (k := k) (m := m) a n hd.2
    have hnm : ∀ z, (b, z) ∉ m := fun z hz => hd.1 (List.mem_map.2 ⟨(b, z), hz, rfl⟩)
    unfold putC getC
    by_cases hb : b = k
    · subst hb
      rw [if_pos rfl, if_pos rfl, List.mem_cons, List.mem_cons, Prod.mk.injEq, Prod.mk.injEq]
      constructor
      · rintro (⟨rfl, rfl⟩ | h)
        · exact .inr ⟨rfl, rfl⟩
        · refine .inl ⟨fun e => ?_, .inr h⟩
          subst e
          exact hnm _ h
      · rintro (⟨h1, (⟨rfl, _⟩ | h)⟩ | ⟨rfl, rfl⟩)
        · exact absurd rfl h1
        · exact .inr h
        · exact .inl ⟨rfl, rfl⟩
    · rw [if_neg hb, if_neg hb, List.mem_cons, List.mem_cons, Prod.mk.injEq, ih]
      constructor
      · rintro (⟨rfl, rfl⟩ | ⟨h1, h2⟩ | h)
        · exact .inl ⟨hb, .inl ⟨rfl, rfl⟩⟩
        · exact .inl ⟨h1, .inr h2⟩
        · exact .inr h
      · rintro (⟨h1, (⟨rfl, rfl⟩ | h2)⟩ | h)
        · exact .inl ⟨rfl, rfl⟩
        · exact .inr (.inl ⟨h1, h2⟩)
        · exact .inr (.inr h)
theorem putC_keys {k : ByteArray} : ∀ {m : List (ByteArray × Int)} (a : ByteArray), a ∈ (putC k m).map Prod.fst ↔ a = k ∨ a ∈ m.map Prod.fst
  | [], a => by unfold putC; simp
  | (b, c) :: m, a => by
    have ih := putC_keys (k := k) (m := m) a
    unfold putC
    by_cases hb : b = k
    · subst hb
      rw [if_pos rfl, List.map_cons, List.map_cons, List.mem_cons]
      constructor
      · exact fun h => .inr h
      · rintro (h | h)
        · exact .inl h
        · exact h
    · rw [if_neg hb, List.map_cons, List.map_cons, List.mem_cons, List.mem_cons, ih]
      constructor
      · rintro (h | h | h)
        · exact .inr (.inl h)
        · exact .inl h
        · exact .inr (.inr h)
      · rintro (h | h | h)
        · exact .inr (.inl h)
        · exact .inl h
        · exact .inr (.inr h)
theorem putC_nodup {k : ByteArray} : ∀ {m : List (ByteArray × Int)}, (m.map Prod.fst).Nodup → ((putC k m).map Prod.fst).Nodup
  | [], _ => by unfold putC; simp
  | (b, c) :: m, hd => by
    rw [List.map_cons, List.nodup_cons] at hd
    unfold putC
    by_cases hb : b = k
    · rw [if_pos hb, List.map_cons, List.nodup_cons]; exact hd
    · rw [if_neg hb, List.map_cons, List.nodup_cons]
      refine ⟨fun h => ?_, putC_nodup hd.2⟩
      rcases (putC_keys _).1 h with h | h
      · exact hb h
      · exact hd.1 h
theorem getC_of {k : ByteArray} {n : Int} : ∀ {m : List (ByteArray × Int)}, (m.map Prod.fst).Nodup → (k, n) ∈ m → getC k m = n
  | [], _, h => by cases h
  | (b, c) :: m, hd, h => by
    rw [List.map_cons, List.nodup_cons] at hd
    unfold getC
    rcases List.mem_cons.1 h with h | h
    · injection h with h1 h2
      rw [if_pos h1.symm, h2]
    · rw [if_neg (fun e => hd.1 (by rw [e]; exact List.mem_map.2 ⟨_, h, rfl⟩)), getC_of hd.2 h]
theorem getC_none {k : ByteArray} : ∀ {m : List (ByteArray × Int)}, k ∉ m.map Prod.fst → getC k m = 0
  | [], _ => rfl
  | (b, c) :: m, h => by
    rw [List.map_cons, List.mem_cons] at h
    unfold getC
    rw [if_neg (fun e => h (.inl e.symm)), getC_none (fun e => h (.inr e))]
/-- Each key of the events, and how many of it there are. -/
theorem cnts_mem (l : List EvM) : ∀ i, i ≤ l.length → ((cntsE (l.take i)).map Prod.fst).Nodup ∧ (∀ k, k ∈ (cntsE (l.take i)).map Prod.fst ↔ ∃ e ∈ l.take i, e.key = k) ∧ (∀ k, getC k (cntsE (l.take i)) = cntK (l.take i) k) ∧ ∀ k n, (k, n) ∈ cntsE (l.take i) ↔ n = cntK (l.take i) k ∧ ∃ e ∈ l.take i, e.key = k := fun i => by
  induction i with
  | zero =>
    intro _
    rw [List.take_zero]
    refine ⟨List.nodup_nil, fun k => ?_, fun k => rfl, fun k n => ?_⟩
    · simp [cntsE]
    · simp [cntsE]
  | succ i ih =>
    intro hi
    obtain ⟨e, he⟩ := has_elem (show i < l.length by omega)
    obtain ⟨h1, h2, h3, h4⟩ := ih (by omega)
    have hnd := putC_nodup (k := e.key) h1
    have hmem : ∀ k, (∃ x ∈ l.take (i + 1), x.key = k) ↔ k = e.key ∨ ∃ x ∈ l.take i, x.key = k := fun k => by
      rw [take_next he]
      constructor
      · rintro ⟨x, hx, hk⟩
        rcases List.mem_append.1 hx with hx | hx
        · exact .inr ⟨x, hx, hk⟩
        · rw [List.mem_singleton.1 hx] at hk; exact .inl hk.symm
      · rintro (rfl | ⟨x, hx, hk⟩)
        · exact ⟨e, by simp, rfl⟩
        · exact ⟨x, List.mem_append_left _ hx, hk⟩
    rw [cnts_next he]
    have h5 : ∀ k n, (k, n) ∈ putC e.key (cntsE (l.take i)) ↔ n = cntK (l.take (i + 1)) k ∧ ∃ x ∈ l.take (i + 1), x.key = k := fun k n => by
      rw [putC_mem k n h1, h4, h3, cntK_next he, hmem]
      by_cases hk : k = e.key
      · subst hk
        rw [if_pos rfl]
        constructor
        · rintro (⟨h, _⟩ | ⟨_, h⟩)
          · exact absurd rfl h
          · exact ⟨by rw [h]; rfl, .inl rfl⟩
        · rintro ⟨h, _⟩
          exact .inr ⟨rfl, by rw [h]; rfl⟩
      · rw [if_neg (fun h => hk h.symm), Nat.add_zero]
        constructor
        · rintro (⟨_, h⟩ | ⟨h, _⟩)
          · exact ⟨h.1, .inr h.2⟩
          · exact absurd h hk
        · rintro ⟨h, (h' | h')⟩
          · exact absurd h' hk
          · exact .inl ⟨hk, h, h'⟩
    have h6 : ∀ k, k ∈ (putC e.key (cntsE (l.take i))).map Prod.fst ↔ ∃ x ∈ l.take (i + 1), x.key = k := fun k => by rw [putC_keys, h2, hmem]
    refine ⟨hnd, h6, fun k => ?_, h5⟩
    by_cases hk : ∃ x ∈ l.take (i + 1), x.key = k
    · exact getC_of hnd ((h5 k _).2 ⟨rfl, hk⟩)
    · rw [getC_none (fun h => hk ((h6 k).1 h))]
      have : cntK (l.take (i + 1)) k = 0 := by
        unfold cntK
        rw [List.countP_eq_zero]
        intro x hx
        simp only [decide_eq_true_eq]
        exact fun h => hk ⟨x, hx, h⟩
      rw [this]
      rfl
end Go.Proofs.Ytojopmkekimpjaa
