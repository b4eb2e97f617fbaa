/- Layer 6 (epoch): what each function computes. -/
import Derived.Test.YtflbfdmmfoigaaaGreatHxS
import Derived.Test.YtflbfdmmfoigaaaGreatP05
namespace Go.Proofs.YtflbfdmmfoigaaaGreat
open Go Go.HX
attribute [local irreducible] Ret XRun XOps XDr XOne Does Gives
set_option maxRecDepth 4000
set_option maxHeartbeats 1000000
/-- The present epoch, and what each session saw. -/
structure TabM where
  now : Int
  seen : List Int
instance : DecidableEq TabM := fun a b => if h : a.now = b.now ∧ a.seen = b.seen then .isTrue (by cases a; cases b; simp_all) else .isFalse (fun e => h (by subst e; exact ⟨rfl, rfl⟩))
def tabOk (t : TabM) : Prop := 1 ≤ t.now ∧ t.now ≤ 1000000 ∧ 1 ≤ t.seen.length ∧ t.seen.length ≤ 8 ∧ ∀ i, 0 ≤ t.seen.getD i 0 ∧ t.seen.getD i 0 ≤ t.now
def isTab (b : Nat) (t : TabM) : HProp := hex fun c => hex fun r => hpure (r.ws = t.now :: t.seen ∧ tabOk t) (sep (pt b (.cells #[.pointer (some ⟨c, 0, none⟩)] T.epoch_Table (0, 0))) (isRow c r))
def isSess (t : TabM) (s : Int) : Prop := 0 ≤ s ∧ s < t.seen.length
instance (t : TabM) (s : Int) : Decidable (isSess t s) := inferInstanceAs (Decidable (_ ∧ _))
def seenT (t : TabM) (s : Int) : Int := if isSess t s then t.seen.getD s.toNat 0 else 0
def turnT (t : TabM) (s : Int) (inn : Bool) (sees other : Int) : Int × TabM := if ¬ isSess t s then (1, t) else if inn ≠ decide (0 < seenT t s) then (other, t) else (0, ⟨t.now, t.seen.set s.toNat sees⟩)
def doesT (t : TabM) (kind s : Int) : Int × TabM := if kind = 1 then turnT t s false t.now 8 else if kind = 2 then turnT t s true t.now 7 else if kind = 3 then turnT t s true 0 7 else if kind = 4 then (0, ⟨t.now + 1, t.seen⟩) else (0, t)
def inF : Nat → List Int → List Int
  | _, [] => []
  | i, x :: xs => if 0 < x then (i : Int) :: inF (i + 1) xs else inF (i + 1) xs
def inT (t : TabM) : List Int := inF 0 t.seen
def leastT (t : TabM) : Int := ((inT t).map (seenT t)).foldl min t.now
def safeT (t : TabM) : Int := leastT t - 1
theorem inF_append (x : Int) : ∀ (xs : List Int) (i : Nat), inF i (xs ++ [x]) = inF i xs ++ if 0 < x then [((i + xs.length : Nat) : Int)] else []
  | [], i => by simp [inF]
  | y :: xs, i => by
    have ih := inF_append x xs (i + 1)
    have e : i + 1 + xs.length = i + (y :: xs).length := by simp; omega
    rw [e] at ih
    simp only [List.cons_append, inF, ih]
    split <;> rfl
theorem inF_mem : ∀ (xs : List Int) (i : Nat) (s : Int), s ∈ inF i xs ↔ ∃ j : Nat, s = ((i + j : Nat) : Int) ∧ j < xs.length ∧ 0 < xs.getD j 0
  | [], i, s => by simp [inF]
  | x :: xs, i, s => by
    have ih := inF_mem xs (i + 1) s
    have key : (∃ j : Nat, s = ((i + j : Nat) : Int) ∧ j < (x :: xs).length ∧ 0 < (x :: xs).getD j 0) ↔ (s = (i : Int) ∧ 0 < x) ∨ s ∈ inF (i + 1) xs := by
      rw [ih]
      constructor
      · rintro ⟨j, h1, h2, h3⟩
        cases j with
        | zero => exact .inl ⟨by simpa using h1, by simpa using h3⟩
        | succ j => exact .inr ⟨j, by omega, by simpa using h2, by simpa using h3⟩
      · rintro (⟨h1, h2⟩ | ⟨j, h1, h2, h3⟩)
        · exact ⟨0, by omega, by simp, by simpa using h2⟩
        · exact ⟨j + 1, by omega, by simpa using h2, by simpa using h3⟩
    rw [key]
    simp only [inF]
    split
    · rename_i hx
      rw [List.mem_cons]
      exact ⟨fun h => h.imp (fun h => ⟨h, hx⟩) id, fun h => h.imp (fun h => h.1) id⟩
    · rename_i hx
      exact ⟨.inr, fun h => h.elim (fun h => absurd h.2 hx) id⟩
theorem inT_mem {t : TabM} {s : Int} : s ∈ inT t ↔ isSess t s ∧ 0 < seenT t s := by
  unfold inT
  rw [inF_mem]
  constructor
  · rintro ⟨j, rfl, h1, h2⟩
    have hs : isSess t ((0 + j : Nat) : Int) := ⟨by omega, by omega⟩
    refine ⟨hs, ?_⟩
    rw [seenT, if_pos hs]
    simpa using h2
  · rintro ⟨h1, h2⟩
    rw [seenT, if_pos h1] at h2
    unfold isSess at h1
    exact ⟨s.toNat, by omega, by omega, h2⟩
theorem inF_length : ∀ (xs : List Int) (i : Nat), (inF i xs).length ≤ xs.length
  | [], i => by simp [inF]
  | x :: xs, i => by
    have := inF_length xs (i + 1)
    simp only [inF]
    split <;> simp <;> omega
theorem foldl_min (a : Int) : ∀ (l : List Int), l.foldl min a ≤ a ∧ (∀ x ∈ l, l.foldl min a ≤ x) ∧ (l.foldl min a = a ∨ l.foldl min a ∈ l)
  | [] => by
    refine ⟨Int.le_refl _, ?_, .inl rfl⟩
    intro x hx
    cases hx
  | y :: l => by
    obtain ⟨h1, h2, h3⟩ := foldl_min (min a y) l
    simp only [List.foldl_cons]
    refine ⟨by omega, fun x hx => ?_, ?_⟩
    · rcases List.mem_cons.1 hx with rfl | hx
      · omega
      · exact h2 x hx
    · rcases h3 with h3 | h3
      · rcases Int.le_total a y with h | h
        · exact .inl (by omega)
        · exact .inr (List.mem_cons.2 (.inl (by omega)))
      · exact .inr (List.mem_cons_of_mem _ h3)
theorem least_facts (t : TabM) : leastT t ≤ t.now ∧ (∀ s, s ∈ inT t → leastT t ≤ seenT t s) ∧ (leastT t = t.now ∨ ∃ s, s ∈ inT t ∧ leastT t = seenT t s) := by
  obtain ⟨h1, h2, h3⟩ := foldl_min t.now ((inT t).map (seenT t))
  refine ⟨h1, fun s hs => h2 _ (List.mem_map_of_mem hs), h3.imp id (fun h => ?_)⟩
  obtain ⟨s, hs, he⟩ := List.mem_map.1 h
  exact ⟨s, hs, he.symm⟩
theorem seenT_ok {t : TabM} (h : tabOk t) (s : Int) : 0 ≤ seenT t s ∧ seenT t s ≤ t.now := by
  unfold seenT
  split
  · exact h.2.2.2.2 _
  · have := h.1; omega
theorem least_ok {t : TabM} (h : tabOk t) : 1 ≤ leastT t := by
  obtain ⟨_, _, h3 | ⟨s, hs, he⟩⟩ := least_facts t
  · have := h.1; omega
  · have := (inT_mem.1 hs).2
    omega
theorem set_getD6 {l : List Int} {i j : Nat} {x : Int} (h : i < l.length) : (l.set i x).getD j 0 = if i = j then x else l.getD j 0 := by
  rw [List.getD_eq_getElem?_getD, List.getD_eq_getElem?_getD, List.getElem?_set]
  split
  · first | rfl | (rw [if_pos h]; rfl)
  · rfl
theorem turn_ok {t : TabM} (h : tabOk t) (s : Int) (inn : Bool) {sees : Int} (other : Int) (h0 : 0 ≤ sees) (h1 : sees ≤ t.now) : tabOk (turnT t s inn sees other).2 := by
  unfold turnT
  split
  · exact h
  · split
    · exact h
    · rename_i hs _
      have hs : isSess t s := Decidable.not_not.1 hs
      unfold isSess at hs
      refine ⟨h.1, h.2.1, by rw [List.length_set]; exact h.2.2.1, by rw [List.length_set]; exact h.2.2.2.1, fun i => ?_⟩
      show 0 ≤ (t.seen.set s.toNat sees).getD i 0 ∧ (t.seen.set s.toNat sees).getD i 0 ≤ t.now
      rw [set_getD6 (by omega)]
      split
      · exact ⟨h0, h1⟩
      · exact h.2.2.2.2 i
theorem does_ok {t : TabM} (h : tabOk t) (hn : t.now < 1000000) (k s : Int) : tabOk (doesT t k s).2 ∧ t.now ≤ (doesT t k s).2.now ∧ (doesT t k s).2.now ≤ t.now + 1 := by
  have hnow : ∀ inn sees other, (turnT t s inn sees other).2.now = t.now := fun inn sees other => by
    unfold turnT
    split
    · rfl
    · split <;> rfl
  have := h.1
  unfold doesT
  split
  · exact ⟨turn_ok h s _ _ (by omega) (Int.le_refl _), by rw [hnow]; omega, by rw [hnow]; omega⟩
  · split
    · exact ⟨turn_ok h s _ _ (by omega) (Int.le_refl _), by rw [hnow]; omega, by rw [hnow]; omega⟩
    · split
      · exact ⟨turn_ok h s _ _ (by omega) (by omega), by rw [hnow]; omega, by rw [hnow]; omega⟩
      · split
        · exact ⟨⟨by simp only; omega, by simp only; omega, h.2.2.1, h.2.2.2.1, fun i => by have := h.2.2.2.2 i; simp only; omega⟩, by simp only; omega, by simp only; omega⟩
        · exact ⟨h, by simp only; omega, by simp only; omega⟩
section
variable {S : SP} {w : World} {G : List HProp}
theorem isTab_open {b : Nat} {t : TabM} (h : Sat S w (isTab b t :: G)) : ∃ c r, r.ws = t.now :: t.seen ∧ tabOk t ∧ Sat S w (pt b (.cells #[.pointer (some ⟨c, 0, none⟩)] T.epoch_Table (0, 0)) :: isRow c r :: G) := by
  unfold isTab at h
  rw [Sat_ex] at h
  obtain ⟨c, h⟩ := h
  rw [Sat_ex] at h
  obtain ⟨r, h⟩ := h
  rw [Sat_pure, Sat_sep] at h
  exact ⟨c, r, h.1.1, h.1.2, h.2⟩
theorem isTab_shut {b c : Nat} {t : TabM} {r : RowM} (h : Sat S w (pt b (.cells #[.pointer (some ⟨c, 0, none⟩)] T.epoch_Table (0, 0)) :: isRow c r :: G)) (hr : r.ws = t.now :: t.seen) (ht : tabOk t) : Sat S w (isTab b t :: G) := by
  unfold isTab
  rw [Sat_ex]
  refine ⟨c, ?_⟩
  rw [Sat_ex]
  exact ⟨r, by rw [Sat_pure, Sat_sep]; exact ⟨⟨hr, ht⟩, h⟩⟩

theorem epoch_New_spec (n : Int) (h : Sat S w G) : Ret Tryz.prog F.epoch_New #[.int .i64 n] w (fun v w' => (¬ (1 ≤ n ∧ n ≤ 8) ∧ v = .tuple #[.pointer none, .int .i64 1] ∧ Sat S w' G) ∨ (1 ≤ n ∧ n ≤ 8 ∧ ∃ b, v = .tuple #[.pointer (some ⟨b, 0, none⟩), .int .i64 0] ∧ Sat S w' (isTab b ⟨1, List.replicate n.toNat 0⟩ :: G))) := by
  refine ret_of is_epoch_New rfl ?_
  by_cases hn : 1 ≤ n ∧ n ≤ 8
  · repeat' (first | refine stPs ?_ | (refine p_cmp rfl rfl rfl rfl (fun hc => ?_) (fun hc => ?_) <;> simp only [cmpProp] at hc) | fail)
    refine p_call rfl rfl (cell_New_spec (1 + n) h) ?_
    rintro _ w (⟨hx, _⟩ | ⟨_, _, c, rfl, h⟩)
    · exact absurd ⟨by omega, by omega⟩ hx
    have e : List.replicate (1 + n).toNat (0 : Int) = 0 :: List.replicate n.toNat 0 := by rw [show (1 + n).toNat = n.toNat + 1 by omega, List.replicate_succ]
    rw [e] at h
    repeat' (first | refine stPs ?_ | (refine p_cmp rfl rfl rfl rfl (fun hc => ?_) (fun hc => ?_) <;> simp only [cmpProp] at hc) | fail)
    refine p_call rfl rfl (cell_Row_Store_spec 0 1 (by decide) (by decide) h) ?_
    rintro _ w ⟨rfl, h⟩
    rw [RowM.store, if_pos ⟨by decide, by simp; omega⟩] at h
    repeat' (first | refine stPs ?_ | (refine p_cmp rfl rfl rfl rfl (fun hc => ?_) (fun hc => ?_) <;> simp only [cmpProp] at hc) | fail)
    refine p_do rfl (d_box rfl h) ?_
    rintro _ w ⟨b, rfl, h⟩
    repeat' (first | refine stPs ?_ | (refine p_cmp rfl rfl rfl rfl (fun hc => ?_) (fun hc => ?_) <;> simp only [cmpProp] at hc) | fail)
    refine x_ret' is_epoch_New rfl (.inr ⟨hn.1, hn.2, b, rfl, isTab_shut h rfl ⟨by simp, by simp, by simp; omega, by simp; omega, fun i => ?_⟩⟩)
    rw [List.getD_eq_getElem?_getD, List.getElem?_replicate]
    split <;> simp
  · repeat' (first | refine stPs ?_ | (refine p_cmp rfl rfl rfl rfl (fun hc => ?_) (fun hc => ?_) <;> simp only [cmpProp] at hc) | fail)
    all_goals first | (exfalso; omega) | exact x_ret' is_epoch_New rfl (.inl ⟨hn, rfl, h⟩)

theorem epoch_Table_Now_spec {b : Nat} {t : TabM} (h : Sat S w (isTab b t :: G)) : Ret Tryz.prog F.epoch_Table_Now #[.pointer (some ⟨b, 0, none⟩)] w (fun v w' => v = .int .u64 t.now ∧ Sat S w' (isTab b t :: G)) := by
  refine ret_of is_epoch_Table_Now rfl ?_
  obtain ⟨c, r, hr, hok, h⟩ := isTab_open h
  repeat' (first | refine stPs ?_ | fail)
  refine p_call rfl rfl (cell_Row_Load_spec 0 (h.pick (.there .here))) ?_
  have e : r.load 0 = t.now := by rw [RowM.load, if_pos ⟨by decide, by rw [hr]; simp⟩, hr]; rfl
  rw [e]
  rintro _ w ⟨rfl, h⟩
  repeat' (first | refine stPs ?_ | fail)
  exact x_ret' is_epoch_Table_Now rfl ⟨rfl, isTab_shut (h.pick (.there .here)) hr hok⟩

theorem epoch_Table_there_spec {b : Nat} {t : TabM} (s : Int) (h : Sat S w (isTab b t :: G)) : Ret Tryz.prog F.epoch_Table_there #[.pointer (some ⟨b, 0, none⟩), .int .i64 s] w (fun v w' => BoolIs v (isSess t s) ∧ Sat S w' (isTab b t :: G)) := by
  refine ret_of is_epoch_Table_there rfl ?_
  obtain ⟨c, r, hr, hok, h⟩ := isTab_open h
  have hl : (r.ws.length : Int) = t.seen.length + 1 := by rw [hr]; simp
  have hl8 := hok.2.2.2.1
  by_cases hs : 0 ≤ s
  · repeat' (first | refine stPs ?_ | (refine p_cmp rfl rfl rfl rfl (fun hc => ?_) (fun hc => ?_) <;> simp only [cmpProp] at hc) | fail)
    refine p_call rfl rfl (cell_Row_Len_spec (h.pick (.there .here))) ?_
    rintro _ w ⟨rfl, h⟩
    repeat' (first | refine stPs ?_ | (refine p_cmp rfl rfl rfl rfl (fun hc => ?_) (fun hc => ?_) <;> simp only [cmpProp] at hc) | fail)
    all_goals refine x_ret' is_epoch_Table_there rfl ⟨?_, isTab_shut (h.pick (.there .here)) hr hok⟩
    all_goals first | exact .t ⟨by omega, by omega⟩ | exact .f (fun hx => by unfold isSess at hx; omega)
  · repeat' (first | refine stPs ?_ | (refine p_cmp rfl rfl rfl rfl (fun hc => ?_) (fun hc => ?_) <;> simp only [cmpProp] at hc) | fail)
    exact x_ret' is_epoch_Table_there rfl ⟨.f (fun hx => hs hx.1), isTab_shut h hr hok⟩

theorem epoch_Table_Seen_spec {b : Nat} {t : TabM} (s : Int) (h : Sat S w (isTab b t :: G)) : Ret Tryz.prog F.epoch_Table_Seen #[.pointer (some ⟨b, 0, none⟩), .int .i64 s] w (fun v w' => v = .int .u64 (seenT t s) ∧ Sat S w' (isTab b t :: G)) := by
  refine ret_of is_epoch_Table_Seen rfl ?_
  repeat' (first | (refine gC F.epoch_Table_there ?_; refine p_call rfl rfl (epoch_Table_there_spec s h) ?_; rintro _ w ⟨⟨rfl, hs⟩ | ⟨rfl, hs⟩, h⟩) | refine stP ?_ | fail)
  · obtain ⟨c, r, hr, hok, h⟩ := isTab_open h
    have hs' := hs
    have hl8 := hok.2.2.2.1
    unfold isSess at hs'
    repeat' (first | refine stPs ?_ | fail)
    refine p_call rfl rfl (cell_Row_Load_spec (1 + s) (h.pick (.there .here))) ?_
    have e : r.load (1 + s) = seenT t s := by
      rw [RowM.load, if_pos ⟨by omega, by rw [hr]; simp; omega⟩, hr, seenT, if_pos hs, show (1 + s).toNat = s.toNat + 1 by omega]; rfl
    rw [e]
    rintro _ w ⟨rfl, h⟩
    repeat' (first | refine stPs ?_ | fail)
    exact x_ret' is_epoch_Table_Seen rfl ⟨rfl, isTab_shut (h.pick (.there .here)) hr hok⟩
  · exact x_ret' is_epoch_Table_Seen rfl ⟨by rw [seenT, if_neg hs]; rfl, h⟩





theorem epoch_Table_Bump_spec {b : Nat} {t : TabM} (hn : t.now < 1000000) (h : Sat S w (isTab b t :: G)) : Ret Tryz.prog F.epoch_Table_Bump #[.pointer (some ⟨b, 0, none⟩)] w (fun v w' => v = .tuple #[.int .u64 t.now, .int .i64 0] ∧ Sat S w' (isTab b ⟨t.now + 1, t.seen⟩ :: G)) := by
  refine ret_of is_epoch_Table_Bump rfl ?_
  obtain ⟨c, r, hr, hok, h⟩ := isTab_open h
  have h1 := hok.1
  repeat' (first | refine stPs ?_ | fail)
  refine p_call rfl rfl (cell_Row_Add_spec 0 1 (h.pick (.there .here))) ?_
  have hi : 0 ≤ (0 : Int) ∧ (0 : Int) < r.ws.length := ⟨by decide, by rw [hr]; simp⟩
  have e : r.load 0 = t.now := by rw [RowM.load, if_pos hi, hr]; rfl
  rw [e, RowM.may, if_pos hi]
  rintro _ w ⟨rfl, h⟩
  rw [RowM.add, if_pos (show r.there 0 from hi)] at h
  repeat' (first | refine stPs ?_ | fail)
  refine x_ret' is_epoch_Table_Bump rfl ⟨rfl, isTab_shut (h.pick (.there .here)) ?_ ⟨by simp only; omega, by simp only; omega, hok.2.2.1, hok.2.2.2.1, fun i => by have := hok.2.2.2.2 i; simp only; omega⟩⟩
  rw [hr]
  show ((t.now + 1) % 18446744073709551616) :: t.seen = _
  rw [Int.emod_eq_of_lt (by omega) (by omega)]

theorem epoch_Table_Now_nil  (h : Sat S w G) :
    Ret Tryz.prog F.epoch_Table_Now #[.pointer none] w (fun v w' => v = .int .u64 0 ∧ Sat S w' G) := by
  refine ret_of is_epoch_Table_Now rfl ?_
  repeat' (first | refine stPs ?_ | fail)
  all_goals exact x_ret' is_epoch_Table_Now rfl ⟨rfl, h⟩

theorem epoch_Table_Bump_nil  (h : Sat S w G) :
    Ret Tryz.prog F.epoch_Table_Bump #[.pointer none] w (fun v w' => v = .tuple #[.int .u64 0, .int .i64 2] ∧ Sat S w' G) := by
  refine ret_of is_epoch_Table_Bump rfl ?_
  repeat' (first | refine stPs ?_ | fail)
  all_goals exact x_ret' is_epoch_Table_Bump rfl ⟨rfl, h⟩

theorem epoch_Table_Safe_nil  (h : Sat S w G) :
    Ret Tryz.prog F.epoch_Table_Safe #[.pointer none] w (fun v w' => v = .int .u64 0 ∧ Sat S w' G) := by
  refine ret_of is_epoch_Table_Safe rfl ?_
  repeat' (first | refine stPs ?_ | (refine p_cmp rfl rfl rfl rfl (fun hc => ?_) (fun hc => ?_) <;> simp only [cmpProp] at hc) | fail)
  all_goals exact x_ret' is_epoch_Table_Safe rfl ⟨rfl, h⟩

theorem epoch_Table_there_nil (s : Int) (h : Sat S w G) :
    Ret Tryz.prog F.epoch_Table_there #[.pointer none, .int .i64 s] w (fun v w' => v = .bool false ∧ Sat S w' G) := by
  refine ret_of is_epoch_Table_there rfl ?_
  repeat' (first | refine stPs ?_ | (refine p_cmp rfl rfl rfl rfl (fun hc => ?_) (fun hc => ?_) <;> simp only [cmpProp] at hc) | fail)
  all_goals exact x_ret' is_epoch_Table_there rfl ⟨rfl, h⟩

theorem epoch_Table_Seen_nil (s : Int) (h : Sat S w G) :
    Ret Tryz.prog F.epoch_Table_Seen #[.pointer none, .int .i64 s] w (fun v w' => v = .int .u64 0 ∧ Sat S w' G) := by
  refine ret_of is_epoch_Table_Seen rfl ?_
  repeat' (first | (refine gC F.epoch_Table_there ?_; refine p_call rfl rfl (epoch_Table_there_nil s h) ?_; rintro _ w ⟨rfl, h⟩) | refine stP ?_ | fail)
  exact x_ret' is_epoch_Table_Seen rfl ⟨rfl, h⟩





theorem epoch_Table_In_nil (h : Sat S w G) :
    Ret Tryz.prog F.epoch_Table_In #[.pointer none] w (fun v w' => v = .slice none 0 0 ∧ Sat S w' G) := by
  refine ret_of is_epoch_Table_In rfl ?_
  repeat' (first | refine stPs ?_ | (refine p_cmp rfl rfl rfl rfl (fun hc => ?_) (fun hc => ?_) <;> simp only [cmpProp] at hc) | fail)
  refine x_loop ?_
  repeat' (first | (refine gC F.epoch_Table_there ?_; refine p_call rfl rfl (epoch_Table_there_nil _ h) ?_; rintro _ w ⟨rfl, h⟩) | refine stP ?_ | (refine p_cmp rfl rfl rfl rfl (fun hc => ?_) (fun hc => ?_) <;> simp only [cmpProp] at hc) | fail)
  exact x_ret' is_epoch_Table_In rfl ⟨rfl, h⟩

theorem epoch_Table_In_spec {b : Nat} {t : TabM} (h : Sat S w (isTab b t :: G)) : Ret Tryz.prog F.epoch_Table_In #[.pointer (some ⟨b, 0, none⟩)] w (fun v w' => Sat S w' (ownS T.int 1 v (ints .i64 (inT t)) :: isTab b t :: G)) := by
  obtain ⟨_, _, _, hok, _⟩ := isTab_open h
  have hl8 := hok.2.2.2.1
  refine ret_of is_epoch_Table_In rfl ?_
  repeat' (first | refine stPs ?_ | (refine p_cmp rfl rfl rfl rfl (fun hc => ?_) (fun hc => ?_) <;> simp only [cmpProp] at hc) | fail)
  have h := ownS_none (E := T.int) (n := 1) h
  refine x_keep [0, 3, 4] rfl ?_
  refine x_loop_inv (fun lm le w => ∃ (i : Nat), ∃ (v3 : Value), lm = t.seen.length - i ∧ i ≤ t.seen.length ∧ le = [(0, .pointer (some ⟨b, 0, none⟩)), (3, v3), (4, .int .i64 i)] ∧ Sat S w (ownS T.int 1 v3 (ints .i64 (inF 0 (t.seen.take i))) :: isTab b t :: G)) (t.seen.length) ⟨0, _, rfl, by omega, rfl, h⟩ ?_
  clear h
  rintro lm le w ⟨i, v3, rfl, hi0, rfl, h⟩ ih
  repeat' (first | refine stPs ?_ | (refine p_cmp rfl rfl rfl rfl (fun hc => ?_) (fun hc => ?_) <;> simp only [cmpProp] at hc) | fail)
  refine p_call rfl rfl (epoch_Table_there_spec (i : Int) (h.pick (.there .here))) ?_
  rintro _ w ⟨⟨rfl, hs⟩ | ⟨rfl, hs⟩, h⟩
  · have hs' := hs
    unfold isSess at hs'
    have hx : t.seen[i]? = some (t.seen.getD i 0) := by rw [List.getD_eq_getElem?_getD, List.getElem?_eq_getElem (by omega)]; rfl
    have hlt : (t.seen.take i).length = i := by rw [List.length_take]; omega
    have hin := inF_append (t.seen.getD i 0) (t.seen.take i) 0
    rw [← take_next hx, hlt] at hin
    have hse : seenT t (i : Int) = t.seen.getD i 0 := by rw [seenT, if_pos hs]; rfl
    have hil := inF_length (t.seen.take i) 0
    repeat' (first | refine stPs ?_ | (refine p_cmp rfl rfl rfl rfl (fun hc => ?_) (fun hc => ?_) <;> simp only [cmpProp] at hc) | fail)
    refine p_call rfl rfl (epoch_Table_Seen_spec (i : Int) h) ?_
    rw [hse]
    rintro _ w ⟨rfl, h⟩
    repeat' (first | refine stPs ?_ | (refine p_cmp rfl rfl rfl rfl (fun hc => ?_) (fun hc => ?_) <;> simp only [cmpProp] at hc) | fail)
    · rw [if_pos hc] at hin
      refine p_lit [.int .i64 (i : Int)] rfl rfl rfl rfl rfl rfl h (fun v w h => ?_)
      refine p_app rfl rfl rfl rfl (by decide) (h.pick (by repeat first | exact .here | apply Has.there)) (ownS_rd h .here) (by simp [Value.oneCell']) ?_ ?_ (fun v w h => ?_)
      · rw [ints_length]; simp only [List.length_singleton]; omega
      · rw [ints_length]; simp only [List.length_singleton]; omega
      repeat' (first | refine stPs ?_ | (refine p_cmp rfl rfl rfl rfl (fun hc => ?_) (fun hc => ?_) <;> simp only [cmpProp] at hc) | fail)
      have e1 : ints .i64 (inF 0 (t.seen.take i)) ++ [.int .i64 (i : Int)] = ints .i64 (inF 0 (t.seen.take (i + 1))) := by rw [hin]; simp [ints]
      rw [e1] at h
      refine x_keep [0, 3, 4] rfl (ih _ _ _ (by omega) ⟨i + 1, _, rfl, by omega, rfl, ?_⟩)
      exact h.sub (.cons (by repeat first | exact .here | apply Has.there) (.cons (by repeat first | exact .here | apply Has.there) (by repeat first | exact .refl _ | apply Sub.skip)))
    · rw [if_neg hc, List.append_nil] at hin
      rw [← hin] at h
      refine x_keep [0, 3, 4] rfl (ih _ _ _ (by omega) ⟨i + 1, _, rfl, by omega, rfl, ?_⟩)
      exact h.sub (.cons (by repeat first | exact .here | apply Has.there) (.cons (by repeat first | exact .here | apply Has.there) (by repeat first | exact .refl _ | apply Sub.skip)))
  · have hi : i = t.seen.length := by unfold isSess at hs; omega
    subst hi
    rw [List.take_length] at h
    repeat' (first | refine stPs ?_ | (refine p_cmp rfl rfl rfl rfl (fun hc => ?_) (fun hc => ?_) <;> simp only [cmpProp] at hc) | fail)
    exact x_ret' is_epoch_Table_In rfl (h.pick (.there .here))

theorem epoch_Table_Safe_spec {b : Nat} {t : TabM} (h : Sat S w (isTab b t :: G)) : Ret Tryz.prog F.epoch_Table_Safe #[.pointer (some ⟨b, 0, none⟩)] w (fun v w' => v = .int .u64 (safeT t) ∧ Sat S w' (isTab b t :: G)) := by
  obtain ⟨_, _, _, hok, _⟩ := isTab_open h
  have hl1 := least_ok hok
  have hl2 := (least_facts t).1
  have hn := hok.2.1
  refine ret_of is_epoch_Table_Safe rfl ?_
  repeat' (first | (refine gC F.epoch_Table_Now ?_; refine p_call rfl rfl (epoch_Table_Now_spec h) ?_; rintro _ w ⟨rfl, h⟩) | refine stP ?_ | (refine p_cmp rfl rfl rfl rfl (fun hc => ?_) (fun hc => ?_) <;> simp only [cmpProp] at hc) | fail)
  refine p_call rfl rfl (epoch_Table_In_spec h) ?_
  rintro v w h
  obtain ⟨a, ln, cn, rfl, hln, _⟩ := ownS_slice h .here
  rw [ints_length, Nat.mul_one] at hln
  have hil := inF_length t.seen 0
  have hl8 := hok.2.2.2.1
  have hit : (inT t).length ≤ 8 := by unfold inT; omega
  repeat' (first | refine stPs ?_ | (refine p_cmp rfl rfl rfl rfl (fun hc => ?_) (fun hc => ?_) <;> simp only [cmpProp] at hc) | fail)
  refine x_keep [0, 3, 11, 12, 13] rfl ?_
  refine x_loop_inv (fun lm le w => ∃ (j : Nat), lm = ln - j ∧ j ≤ ln ∧ le = [(0, .pointer (some ⟨b, 0, none⟩)), (3, .int .u64 ((((inT t).take j).map (seenT t)).foldl min t.now)), (11, .slice a ln cn), (12, .int .i64 ln), (13, .int .i64 j)] ∧ Sat S w (ownS T.int 1 (.slice a ln cn) (ints .i64 (inT t)) :: isTab b t :: G)) (ln) ⟨0, rfl, by omega, rfl, h⟩ ?_
  clear h
  rintro lm le w ⟨j, rfl, hi0, rfl, h⟩ ih
  by_cases h1 : j < ln
  · have hx : (inT t)[j]? = some ((inT t).getD j 0) := by rw [List.getD_eq_getElem?_getD, List.getElem?_eq_getElem (by omega)]; rfl
    obtain ⟨bb, rfl⟩ := ownS_addr h .here (by omega)
    have hrd := ownS_rd h .here
    have hnx := take_next hx
    generalize hq : (inT t).getD j 0 = q at *
    repeat' (first | (refine gL ?_; refine p_val rfl (g_ldI (i := j) rfl hrd (by omega) (by omega)) ?_; rw [hq]) | refine stP ?_ | (refine p_cmp rfl rfl rfl rfl (fun hc => ?_) (fun hc => ?_) <;> simp only [cmpProp] at hc) | fail)
    refine p_call rfl rfl (epoch_Table_Seen_spec q (h.pick (.there .here))) ?_
    rintro _ w ⟨rfl, h⟩
    have e : min ((((inT t).take j).map (seenT t)).foldl min t.now) (seenT t q) = (((inT t).take (j + 1)).map (seenT t)).foldl min t.now := by rw [hnx]; simp
    repeat' (first | refine stPs ?_ | (refine p_cmp rfl rfl rfl rfl (fun hc => ?_) (fun hc => ?_) <;> simp only [cmpProp] at hc) | fail)
    rw [e]
    exact x_keep [0, 3, 11, 12, 13] rfl (ih _ _ _ (by omega) ⟨j + 1, rfl, by omega, rfl, h.pick (.there .here)⟩)
  · obtain rfl : j = ln := by omega
    rw [List.take_of_length_le (by omega)]
    have e : ((inT t).map (seenT t)).foldl min t.now = leastT t := rfl
    rw [e]
    repeat' (first | refine stPs ?_ | (refine p_cmp rfl rfl rfl rfl (fun hc => ?_) (fun hc => ?_) <;> simp only [cmpProp] at hc) | fail)
    exact x_ret' is_epoch_Table_Safe rfl ⟨rfl, h.drop⟩


end
end Go.Proofs.YtflbfdmmfoigaaaGreat
