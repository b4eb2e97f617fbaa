/- Layer 29 (meter): sums, sorted lists, how many are open at once: plain laws. -/
import Derived.Test.YtojopmkekimpjaaHxS
namespace Go.Proofs.Ytojopmkekimpjaa
open Go Go.HX
set_option maxRecDepth 4000
set_option maxHeartbeats 1000000
/-- An event: of its operation the kind, key, value, number; of its outcome the code, the value; its times. -/
structure EvM where
  kind : Int
  key : ByteArray
  val : ByteArray
  n : Int
  code : Int
  oval : ByteArray
  from_ : Int
  to : Int
def evC (e : EvM) : List Value := [.int .i64 e.kind, .string e.key, .string e.val, .int .u64 e.n, .int .i64 e.code, .string e.oval, .int .i64 e.from_, .int .i64 e.to]
theorem evC_len (e : EvM) : (evC e).length = 8 := rfl
def EvM.right (e : EvM) : Prop := (1 ≤ e.kind ∧ e.kind ≤ 4) ∧ 1 ≤ e.from_ ∧ (e.to = 0 ∨ e.from_ < e.to)
instance (e : EvM) : Decidable e.right := inferInstanceAs (Decidable (_ ∧ _))
def EvM.soon (e : EvM) : Prop := e.from_ ≤ 999999999 ∧ e.to ≤ 999999999
instance (e : EvM) : Decidable e.soon := inferInstanceAs (Decidable (_ ∧ _))
def mayE (l : List EvM) : Prop := (∀ e ∈ l, e.right) ∧ ∀ e ∈ l, e.soon
/-- The waits, one behind the other. -/
def waitsE (l : List EvM) : List Int := (l.filter fun e => decide (e.to ≠ 0)).map fun e => e.to - e.from_
theorem waits_cons (e : EvM) (l : List EvM) : waitsE (e :: l) = (if e.to ≠ 0 then [e.to - e.from_] else []) ++ waitsE l := by
  unfold waitsE
  by_cases h : e.to = 0
  · rw [List.filter_cons_of_neg (by simpa using h), if_neg (by simpa using h)]; rfl
  · rw [List.filter_cons_of_pos (by simpa using h), if_pos h]; rfl
theorem waits_app : ∀ l m : List EvM, waitsE (l ++ m) = waitsE l ++ waitsE m := fun l m => by
  unfold waitsE
  rw [List.filter_append, List.map_append]
theorem waits_length : ∀ l : List EvM, (waitsE l).length ≤ l.length
  | [] => Nat.le_refl _
  | e :: l => by
    rw [waits_cons, List.length_append, List.length_cons]
    have := waits_length l
    split <;> simp <;> omega
theorem waits_bnd {l : List EvM} (h : mayE l) : ∀ z ∈ waitsE l, 1 ≤ z ∧ z ≤ 999999999 := fun z hz => by
  obtain ⟨e, he, rfl⟩ := List.mem_map.1 hz
  obtain ⟨he, h0⟩ := List.mem_filter.1 he
  have h1 := h.1 e he
  have h2 := h.2 e he
  unfold EvM.right at h1
  unfold EvM.soon at h2
  simp at h0
  omega
/-! ### sorted lists -/
def Sorted (l : List Int) : Prop := l.Pairwise (· ≤ ·)
theorem sorted_eq : ∀ {l m : List Int}, l.Perm m → Sorted l → Sorted m → l = m
  | [], m, hp, _, _ => hp.nil_eq
  | a :: l, [], hp, _, _ => by have := hp.length_eq; simp at this
  | a :: l, b :: m, hp, hl, hm => by
    obtain ⟨h1, h2⟩ := List.pairwise_cons.1 hl
    obtain ⟨h3, h4⟩ := List.pairwise_cons.1 hm
    have hab : a = b := by
      have e1 : b ∈ a :: l := hp.mem_iff.2 (List.mem_cons_self ..)
      have e2 : a ∈ b :: m := hp.mem_iff.1 (List.mem_cons_self ..)
      rcases List.mem_cons.1 e1 with e1 | e1
      · exact e1.symm
      · rcases List.mem_cons.1 e2 with e2 | e2
        · exact e2
        · have := h1 b e1
          have := h3 a e2
          omega
    subst hab
    rw [sorted_eq (List.Perm.cons_inv hp) h2 h4]
/-- A number put in its place. -/
def putI : List Int → Int → List Int
  | [], z => [z]
  | a :: l, z => if z < a then z :: a :: l else a :: putI l z
theorem putI_perm : ∀ (l : List Int) (z : Int), (putI l z).Perm (z :: l)
  | [], _ => List.Perm.refl _
  | a :: l, z => by
    unfold putI
    split
    · exact List.Perm.refl _
    · exact ((putI_perm l z).cons a).trans (List.Perm.swap z a l)
theorem putI_sorted : ∀ {l : List Int} (z : Int), Sorted l → Sorted (putI l z)
  | [], z, _ => List.pairwise_singleton _ _
  | a :: l, z, h => by
    obtain ⟨h1, h2⟩ := List.pairwise_cons.1 h
    unfold putI
    split
    · rename_i hz
      refine List.pairwise_cons.2 ⟨fun b hb => ?_, h⟩
      rcases List.mem_cons.1 hb with rfl | hb
      · omega
      · have := h1 b hb; omega
    · refine List.pairwise_cons.2 ⟨fun b hb => ?_, putI_sorted z h2⟩
      rcases List.mem_cons.1 ((putI_perm l z).mem_iff.1 hb) with rfl | hb
      · omega
      · exact h1 b hb
/-- Each put in its place, one by one. -/
def sortI (l : List Int) : List Int := l.foldl putI []
theorem foldI (l : List Int) : ∀ m : List Int, Sorted m → Sorted (l.foldl putI m) ∧ (l.foldl putI m).Perm (m ++ l) := by
  induction l with
  | nil => exact fun m h => ⟨h, by rw [List.append_nil]; exact List.Perm.refl _⟩
  | cons a l ih =>
    intro m h
    obtain ⟨h1, h2⟩ := ih (putI m a) (putI_sorted a h)
    refine ⟨h1, h2.trans ?_⟩
    exact ((putI_perm m a).append_right l).trans List.perm_middle.symm
theorem sortI_sorted (l : List Int) : Sorted (sortI l) := (foldI l [] List.Pairwise.nil).1
theorem sortI_perm (l : List Int) : (sortI l).Perm l := (foldI l [] List.Pairwise.nil).2
theorem sortI_next (l : List Int) (z : Int) : sortI (l ++ [z]) = putI (sortI l) z := by
  unfold sortI
  rw [List.foldl_append]
  rfl
theorem sorted_get {l : List Int} (h : Sorted l) {i j : Nat} (hij : i ≤ j) (hj : j < l.length) : l.getD i 0 ≤ l.getD j 0 := by
  have e : ∀ k, k < l.length → l.getD k 0 = l[k]! := fun k hk => by rw [List.getD_eq_getElem?_getD, getElem!_def, List.getElem?_eq_getElem hk]; rfl
  rcases Nat.lt_or_ge i j with hl | hg
  · have h1 := List.pairwise_iff_getElem.1 h i j (by omega) hj hl
    rw [List.getD_eq_getElem?_getD, List.getD_eq_getElem?_getD, List.getElem?_eq_getElem (by omega), List.getElem?_eq_getElem hj]
    exact h1
  · obtain rfl : i = j := by omega
    exact Int.le_refl _
/-! ### sums -/
def sumI (l : List Int) : Int := l.foldr (· + ·) 0
theorem sumI_cons (a : Int) (l : List Int) : sumI (a :: l) = a + sumI l := rfl
theorem sumI_app (l m : List Int) : sumI (l ++ m) = sumI l + sumI m := by
  induction l with
  | nil => rw [List.nil_append]; unfold sumI; simp
  | cons a l ih => rw [List.cons_append, sumI_cons, sumI_cons, ih]; omega
theorem sumI_perm {l m : List Int} (h : l.Perm m) : sumI l = sumI m := by
  induction h with
  | nil => rfl
  | cons a _ ih => rw [sumI_cons, sumI_cons, ih]
  | swap a b l => rw [sumI_cons, sumI_cons, sumI_cons, sumI_cons]; omega
  | trans _ _ h1 h2 => rw [h1, h2]
theorem sumI_bnd {a b : Int} : ∀ {l : List Int}, (∀ z ∈ l, a ≤ z ∧ z ≤ b) → (l.length : Int) * a ≤ sumI l ∧ sumI l ≤ (l.length : Int) * b
  | [], _ => by simp [sumI]
  | z :: l, h => by
    have h1 := h z (List.mem_cons_self ..)
    have h2 := sumI_bnd (fun y hy => h y (List.mem_cons_of_mem _ hy))
    rw [sumI_cons, List.length_cons, Int.natCast_succ, Int.add_mul, Int.add_mul]
    omega
/-! ### how many are open -/
/-- How many are open at a time. -/
def EvM.open_ (e : EvM) (t : Int) : Prop := e.from_ ≤ t ∧ (e.to = 0 ∨ t < e.to)
instance (e : EvM) (t : Int) : Decidable (e.open_ t) := inferInstanceAs (Decidable (_ ∧ _))
def openN (l : List EvM) (t : Int) : Nat := l.countP fun e => decide (e.open_ t)
/-- At some event's begin most are open. -/
def wideN (l : List EvM) : List EvM → Nat
  | [] => 0
  | e :: m => max (openN l e.from_) (wideN l m)
theorem wideN_ge {l m : List EvM} {e : EvM} (h : e ∈ m) : openN l e.from_ ≤ wideN l m := by
  induction m with
  | nil => cases h
  | cons y m ih =>
    unfold wideN
    rcases List.mem_cons.1 h with rfl | h
    · omega
    · have := ih h; omega
theorem wideN_le {l : List EvM} {n : Nat} : ∀ {m : List EvM}, (∀ e ∈ m, openN l e.from_ ≤ n) → wideN l m ≤ n
  | [], _ => Nat.zero_le _
  | e :: m, h => by
    unfold wideN
    have h1 := h e (List.mem_cons_self ..)
    have h2 := wideN_le (fun y hy => h y (List.mem_cons_of_mem _ hy))
    omega
theorem wideN_app (l a b : List EvM) : wideN l (a ++ b) = max (wideN l a) (wideN l b) := by
  induction a with
  | nil =>
    show wideN l b = max 0 (wideN l b)
    omega
  | cons e a ih =>
    show max (openN l e.from_) (wideN l (a ++ b)) = max (max (openN l e.from_) (wideN l a)) (wideN l b)
    rw [ih]
    omega
/-- The turns: at a begin one more is open, at an end one less. -/
def turnsE : List EvM → List (Int × Int)
  | [] => []
  | e :: l => (e.from_, 1) :: ((if e.to ≠ 0 then [(e.to, -1)] else []) ++ turnsE l)
theorem turns_app (l m : List EvM) : turnsE (l ++ m) = turnsE l ++ turnsE m := by
  induction l with
  | nil => rfl
  | cons e l ih =>
    show (e.from_, 1) :: (_ ++ turnsE (l ++ m)) = ((e.from_, 1) :: (_ ++ turnsE l)) ++ turnsE m
    rw [ih, List.cons_append, List.append_assoc]
theorem turns_length (l : List EvM) : (turnsE l).length ≤ 2 * l.length := by
  induction l with
  | nil => exact Nat.le_refl _
  | cons e l ih => unfold turnsE; rw [List.length_cons, List.length_append, List.length_cons]; split <;> simp <;> omega
theorem turns_mem {l : List EvM} {p : Int × Int} (h : p ∈ turnsE l) : (p.2 = -1 ∨ p.2 = 1 ∧ ∃ e ∈ l, e.from_ = p.1) := by
  induction l with
  | nil => cases h
  | cons e l ih =>
    unfold turnsE at h
    rcases List.mem_cons.1 h with rfl | h
    · exact .inr ⟨rfl, e, List.mem_cons_self .., rfl⟩
    · rcases List.mem_append.1 h with h | h
      · split at h
        · rw [List.mem_singleton.1 h]; exact .inl rfl
        · cases h
      · rcases ih h with h | ⟨h, y, hy, hy2⟩
        · exact .inl h
        · exact .inr ⟨h, y, List.mem_cons_of_mem _ hy, hy2⟩
/-- The sum of the turns till a time. -/
def tillT (s : List (Int × Int)) (t : Int) : Int := sumI ((s.filter fun p => decide (p.1 ≤ t)).map Prod.snd)
theorem till_cons (p : Int × Int) (s : List (Int × Int)) (t : Int) : tillT (p :: s) t = (if p.1 ≤ t then p.2 else 0) + tillT s t := by
  unfold tillT
  by_cases h : p.1 ≤ t
  · rw [List.filter_cons_of_pos (by simpa using h), List.map_cons, sumI_cons, if_pos h]
  · rw [List.filter_cons_of_neg (by simpa using h), if_neg h, Int.zero_add]
theorem till_app (s r : List (Int × Int)) (t : Int) : tillT (s ++ r) t = tillT s t + tillT r t := by
  unfold tillT
  rw [List.filter_append, List.map_append, sumI_app]
theorem till_perm {s r : List (Int × Int)} (h : s.Perm r) (t : Int) : tillT s t = tillT r t := sumI_perm ((h.filter _).map _)
theorem openN_cons (e : EvM) (l : List EvM) (t : Int) : openN (e :: l) t = openN l t + if e.open_ t then 1 else 0 := by
  unfold openN
  rw [List.countP_cons]
  by_cases h : e.open_ t
  · rw [if_pos h, if_pos (by simpa using h)]
  · rw [if_neg h, if_neg (by simpa using h)]
theorem till_turns {t : Int} : ∀ {l : List EvM}, (∀ e ∈ l, e.right) → tillT (turnsE l) t = openN l t
  | [], _ => rfl
  | e :: l, h => by
    have ih := till_turns (t := t) (fun y hy => h y (List.mem_cons_of_mem _ hy))
    have he := h e (List.mem_cons_self ..)
    unfold EvM.right at he
    have e0 : tillT [] t = 0 := rfl
    unfold turnsE
    rw [till_cons, till_app, ih, openN_cons]
    by_cases ho : e.open_ t
    · have ho2 := ho
      unfold EvM.open_ at ho2
      rw [if_pos ho]
      by_cases h0 : e.to = 0
      · rw [if_neg (show ¬ (e.to ≠ 0) from fun hx => hx h0), e0, if_pos ho2.1]; omega
      · rw [if_pos h0, till_cons, e0, if_pos ho2.1, if_neg (show ¬ e.to ≤ t by omega)]; omega
    · have ho2 := ho
      unfold EvM.open_ at ho2
      rw [if_neg ho]
      by_cases h0 : e.to = 0
      · rw [if_neg (show ¬ (e.to ≠ 0) from fun hx => hx h0), e0, if_neg (show ¬ e.from_ ≤ t by omega)]; omega
      · rw [if_pos h0, till_cons, e0]
        by_cases h1 : e.from_ ≤ t
        · rw [if_pos h1, if_pos (show e.to ≤ t by omega)]; omega
        · rw [if_neg h1, if_neg (show ¬ e.to ≤ t by omega)]; omega
/-- The greatest sum on the way. -/
def mostT : Int → Int → List (Int × Int) → Int
  | _, m, [] => m
  | n, m, p :: s => mostT (n + p.2) (max m (n + p.2)) s
def Rising (s : List (Int × Int)) : Prop := s.Pairwise fun p q => p.1 < q.1 ∨ p.1 = q.1 ∧ p.2 ≤ q.2
theorem mostT_ge : ∀ (s : List (Int × Int)) (n m : Int), m ≤ mostT n m s
  | [], _, m => Int.le_refl m
  | p :: s, n, m => by
    have := mostT_ge s (n + p.2) (max m (n + p.2))
    unfold mostT
    omega
/-- It is not less than the sum till any time. -/
theorem mostT_till {t : Int} : ∀ {s : List (Int × Int)} {n m : Int}, Rising s → n ≤ m → n + tillT s t ≤ mostT n m s
  | [], n, m, _, h => by unfold mostT tillT; simpa [sumI] using h
  | p :: s, n, m, hs, h => by
    obtain ⟨h1, h2⟩ := List.pairwise_cons.1 hs
    rw [till_cons]
    unfold mostT
    by_cases hp : p.1 ≤ t
    · rw [if_pos hp]
      have := mostT_till (t := t) (s := s) (n := n + p.2) (m := max m (n + p.2)) h2 (by omega)
      omega
    · rw [if_neg hp]
      have e : tillT s t = 0 := by
        unfold tillT
        rw [List.filter_eq_nil_iff.2 (fun q hq => by have := h1 q hq; simp; omega)]
        rfl
      have := mostT_ge s (n + p.2) (max m (n + p.2))
      omega
/-- It is not above what no begin's sum is above. -/
theorem mostT_le {b : Int} : ∀ {s : List (Int × Int)} {n m : Int}, Rising s → m ≤ b → n ≤ b → (∀ p ∈ s, p.2 = -1 ∨ p.2 = 1) → (∀ p ∈ s, p.2 = 1 → n + tillT s p.1 ≤ b) → mostT n m s ≤ b
  | [], _, _, _, h, _, _, _ => h
  | p :: s, n, m, hs, hm, hn, hb, ht => by
    obtain ⟨h1, h2⟩ := List.pairwise_cons.1 hs
    have hp := hb p (List.mem_cons_self ..)
    have hnp : n + p.2 ≤ b := by
      rcases hp with hp | hp
      · omega
      · have h3 := ht p (List.mem_cons_self ..) hp
        rw [till_cons, if_pos (Int.le_refl _)] at h3
        have h4 : 0 ≤ tillT s p.1 := by
          unfold tillT
          have h5 : ∀ z ∈ (s.filter fun q => decide (q.1 ≤ p.1)).map Prod.snd, (0 : Int) ≤ z ∧ z ≤ 1 := fun z hz => by
            obtain ⟨q, hq, rfl⟩ := List.mem_map.1 hz
            obtain ⟨hq, hq2⟩ := List.mem_filter.1 hq
            have h6 := h1 q hq
            have h7 := hb q (List.mem_cons_of_mem _ hq)
            simp at hq2
            omega
          have := (sumI_bnd h5).1
          omega
        omega
    unfold mostT
    refine mostT_le h2 (by omega) hnp (fun q hq => hb q (List.mem_cons_of_mem _ hq)) (fun q hq hq1 => ?_)
    have h3 := ht q (List.mem_cons_of_mem _ hq) hq1
    rw [till_cons] at h3
    have h4 := h1 q hq
    rw [if_pos (by omega)] at h3
    omega
/-- The greatest number that is open at once. -/
theorem most_wide {l : List EvM} {s : List (Int × Int)} (hl : ∀ e ∈ l, e.right) (hp : s.Perm (turnsE l)) (hs : Rising s) : mostT 0 0 s = wideN l l := by
  have ht : ∀ t, tillT s t = openN l t := fun t => by rw [till_perm hp, till_turns hl]
  have h1 : mostT 0 0 s ≤ wideN l l := by
    refine mostT_le hs (by omega) (by omega) (fun p hps => ?_) (fun p hps h1 => ?_)
    · rcases turns_mem (hp.mem_iff.1 hps) with h | ⟨h, _⟩
      · exact .inl h
      · exact .inr h
    · rcases turns_mem (hp.mem_iff.1 hps) with h | ⟨_, e, he, h⟩
      · omega
      · rw [ht, ← h]
        have := wideN_ge (l := l) he
        omega
  have h2 : ∀ m, (∀ e ∈ m, e ∈ l) → (wideN l m : Int) ≤ mostT 0 0 s := fun m => by
    induction m with
    | nil => intro _; have := mostT_ge s 0 0; unfold wideN; omega
    | cons e m ih =>
      intro hm
      have h3 := ih (fun y hy => hm y (List.mem_cons_of_mem _ hy))
      have h4 := mostT_till (t := e.from_) (n := 0) (m := 0) hs (by omega)
      rw [ht] at h4
      unfold wideN
      omega
  have := h2 l (fun _ h => h)
  omega
end Go.Proofs.Ytojopmkekimpjaa
