/- Layer 11 (device): what the document's functions do. -/
import Derived.Test.YtfchenbihepjaaaHxS
import Derived.Test.YtfchenbihepjaaaP11c
namespace Go.Proofs.Ytfchenbihepjaaa
open Go Go.HX
attribute [local irreducible] Ret XRun XOps XDr XOne Does Gives
set_option maxRecDepth 4000
set_option maxHeartbeats 1000000
theorem stC0_P11d {goal next : Prop} (k : next) (hs : Hid next → goal := by (intro k; (first | (refine gBx ?_; refine p_do rfl (d_boxL rfl h (by first | (dsimp only [Value.cells]; done) | exact rfl)) ?_) | fail); exact k.out)) : goal := hs ⟨k⟩
theorem stC1_P11d {goal next : Prop} (k : next) (hs : Hid next → goal := by (intro k; (first | (refine gS ?_; (first | refine p_do rfl (d_stwL rfl rfl rfl rfl rfl (h.pick (by repeat first | exact .here | apply Has.there)) (by first | (dsimp only [Value.cells]; done) | exact rfl)) ?_ | refine p_do rfl (d_stL rfl rfl rfl (h.pick (by repeat first | exact .here | apply Has.there)) (by first | exact of_decide_eq_true rfl | simp) (by first | (dsimp only [List.set]; done) | exact rfl)) ?_)) | fail); exact k.out)) : goal := hs ⟨k⟩
structure JobD where
  area : Int
  no : Int
  wr : Bool
  s : ByteArray
  none : Bool
  state : Int
def jobDC (j : JobD) : List Value := [.int .i64 j.area, .int .i64 j.no, .bool j.wr, .string j.s, .bool j.none, .int .i64 j.state]
theorem jobDC_len (j : JobD) : (jobDC j).length = 6 := rfl
theorem jobDC_one (j : JobD) : ∀ u ∈ jobDC j, u.oneCell' = true := by
  intro u hu
  simp only [jobDC, List.mem_cons, List.not_mem_nil, or_false] at hu
  rcases hu with rfl | rfl | rfl | rfl | rfl | rfl <;> rfl
theorem jobD_b (j : JobD) : ∀ (k : Nat) u, [Value.int .i64 j.area, .int .i64 j.no][k]? = some u → (jobDC j)[0 + k]? = some u
  | 0, u, h => h
  | 1, u, h => h
  | k + 2, u, h => by simp at h
abbrev BI := (Int × Int) × ByteArray
def itemC (p : BI) : List Value := [.int .i64 p.1.1, .int .i64 p.1.2, .string p.2]
theorem itemC_len (p : BI) : (itemC p).length = 3 := rfl
theorem itemC_one (p : BI) : ∀ u ∈ itemC p, u.oneCell' = true := by
  intro u hu
  simp only [itemC, List.mem_cons, List.not_mem_nil, or_false] at hu
  rcases hu with rfl | rfl | rfl <;> rfl
theorem item_b (p : BI) : ∀ (k : Nat) u, [Value.int .i64 p.1.1, .int .i64 p.1.2][k]? = some u → (itemC p)[0 + k]? = some u
  | 0, u, h => h
  | 1, u, h => h
  | k + 2, u, h => by simp at h
structure DocM where
  off : Bool
  items : BL
  jobs : List JobD
-- MACRO RD(x) = pt mb (.cells #[.bool (x).off, iv, jv] T.haycroftref11_Device (0, 0)) :: ownS T.haycroftref11_Item 3 iv (rows itemC (x).items) :: ownS T.haycroftref11_Job 6 jv (rows jobDC (x).jobs)
def flightGo : Nat → List JobD → List Int
  | _, [] => []
  | k, j :: js => if j.state = 0 then ((k : Int) + 1) :: flightGo (k + 1) js else flightGo (k + 1) js
theorem flight_len : ∀ (k : Nat) (js : List JobD), (flightGo k js).length ≤ js.length
  | _, [] => Nat.le_refl _
  | k, j :: js => by
    have := flight_len (k + 1) js
    unfold flightGo
    split <;> simp only [List.length_cons] <;> omega
def leK (b c : Int × Int) : Prop := b.1 < c.1 ∨ b.1 = c.1 ∧ b.2 ≤ c.2
instance (b c : Int × Int) : Decidable (leK b c) := by unfold leK; infer_instance
/-- A block has these bytes, in its place. -/
def layGo (b : Int × Int) (s : ByteArray) : Bool → BL → BL
  | put, [] => if put = true then [] else [(b, s)]
  | put, x :: xs => (if put = false ∧ leK b x.1 then [(b, s)] else []) ++ ((if x.1 = b then [] else [x]) ++ layGo b s (put || decide (leK b x.1)) xs)
section
variable {a n ya yn : Int} {s ys : ByteArray} {xs : BL}
theorem lay_pe (hA : a < ya ∨ a = ya ∧ n ≤ yn) (hB : ya = a ∧ yn = n) : layGo (a, n) s false (((ya, yn), ys) :: xs) = ((a, n), s) :: layGo (a, n) s true xs := by
  have hk : leK (a, n) (ya, yn) := hA
  rw [layGo, if_pos ⟨rfl, hk⟩, if_pos (by rw [hB.1, hB.2]), decide_eq_true hk]
  rfl
theorem lay_pn (hA : a < ya ∨ a = ya ∧ n ≤ yn) (hB : ¬ (ya = a ∧ yn = n)) : layGo (a, n) s false (((ya, yn), ys) :: xs) = ((a, n), s) :: ((ya, yn), ys) :: layGo (a, n) s true xs := by
  have hk : leK (a, n) (ya, yn) := hA
  rw [layGo, if_pos ⟨rfl, hk⟩, if_neg (fun e => hB (Prod.mk.inj e)), decide_eq_true hk]
  rfl
theorem lay_fn (hA : ¬ (a < ya ∨ a = ya ∧ n ≤ yn)) : layGo (a, n) s false (((ya, yn), ys) :: xs) = ((ya, yn), ys) :: layGo (a, n) s false xs := by
  have hk : ¬ leK (a, n) (ya, yn) := hA
  rw [layGo, if_neg (fun e => hk e.2), if_neg (fun e => hA (by have := Prod.mk.inj e; omega)), decide_eq_false hk]
  rfl
theorem lay_te (hB : ya = a ∧ yn = n) : layGo (a, n) s true (((ya, yn), ys) :: xs) = layGo (a, n) s true xs := by
  rw [layGo, if_neg (fun e => by cases e.1), if_pos (by rw [hB.1, hB.2])]
  rfl
theorem lay_tn (hB : ¬ (ya = a ∧ yn = n)) : layGo (a, n) s true (((ya, yn), ys) :: xs) = ((ya, yn), ys) :: layGo (a, n) s true xs := by
  rw [layGo, if_neg (fun e => by cases e.1), if_neg (fun e => hB (Prod.mk.inj e))]
  rfl
end
theorem getL_at {b : Int × Int} {s : ByteArray} : ∀ {l : BL} {i : Nat}, l[i]? = some (b, s) → (∀ j p, j < i → l[j]? = some p → p.1 ≠ b) → getL b l = some s
  | [], i, h, _ => by simp at h
  | p :: l, 0, h, _ => by
    simp at h
    unfold getL
    rw [List.find?_cons, h]
    simp
  | p :: l, i + 1, h, hn => by
    have hp := hn 0 p (by omega) rfl
    have := getL_at (l := l) (i := i) h (fun j q hj hq => hn (j + 1) q (by omega) hq)
    unfold getL at this ⊢
    rw [List.find?_cons, decide_eq_false hp]
    exact this
theorem getL_no {b : Int × Int} {l : BL} (h : ∀ j p, j < l.length → l[j]? = some p → p.1 ≠ b) : getL b l = none := by
  unfold getL
  rw [Option.map_eq_none_iff, List.find?_eq_none]
  intro p hp
  obtain ⟨j, hj⟩ := List.getElem?_of_mem hp
  have := h j p (List.getElem?_eq_some_iff.1 hj).1 hj
  simpa using this
theorem ints_app (kd : IntKind) (l m : List Int) : ints kd (l ++ m) = ints kd l ++ ints kd m := by rw [ints_map, ints_map, ints_map, List.map_append]
theorem lt_next {α : Type} {l : List α} {P : α → Prop} {i : Nat} {y : α} (h : ∀ j p, j < i → l[j]? = some p → P p) (hy : l[i]? = some y) (hp : P y) : ∀ j p, j < i + 1 → l[j]? = some p → P p := fun j p hj hjp => by
  rcases Nat.lt_or_ge j i with hl | hg
  · exact h j p hl hjp
  · obtain rfl : j = i := by omega
    rw [hy] at hjp
    cases hjp
    exact hp
def atD (jobs : List JobD) (t st : Int) : Prop := 1 ≤ t ∧ ∃ j, jobs[(t - 1).toNat]? = some j ∧ j.state = st
section
variable {S : SP} {w : World} {G : List HProp}
theorem ref11_May_spec (a n : Int) (h : Sat S w G) : Ret Try.prog F.ref11_May #[.agg #[.int .i64 a, .int .i64 n]] w (fun v w' => BoolIs v (mayB a n) ∧ Sat S w' G) := by
  refine ret_of is_ref11_May rfl ?_
  repeat' (first | refine stPs ?_ | (refine stC0_P11d ?_; rintro _ w ⟨bx, rfl, h⟩) | (refine p_cmp rfl rfl rfl rfl (fun hc => ?_) (fun hc => ?_) <;> simp only [cmpProp] at hc) | fail)
  all_goals refine x_ret' is_ref11_May rfl ⟨?_, h.drop⟩
  all_goals unfold mayB
  all_goals first | exact .t (by omega) | exact .f (by omega)
theorem ref11_Device_Peek_spec {mb : Nat} {iv jv : Value} (m : DocM) (a n : Int) (hl : m.items.length ≤ 1000) (h : Sat S w (pt mb (.cells #[.bool (m).off, iv, jv] T.haycroftref11_Device (0, 0)) :: ownS T.haycroftref11_Item 3 iv (rows itemC (m).items) :: ownS T.haycroftref11_Job 6 jv (rows jobDC (m).jobs) :: G)) :
    Ret Try.prog F.ref11_Device_Peek #[.pointer (some ⟨mb, 0, none⟩), .agg #[.int .i64 a, .int .i64 n]] w (fun v w' => v = .tuple #[.string ((getL (a, n) m.items).getD ⟨#[]⟩), .bool (getL (a, n) m.items).isSome] ∧ Sat S w' (pt mb (.cells #[.bool (m).off, iv, jv] T.haycroftref11_Device (0, 0)) :: ownS T.haycroftref11_Item 3 iv (rows itemC (m).items) :: ownS T.haycroftref11_Job 6 jv (rows jobDC (m).jobs) :: G)) := by
  obtain ⟨off, items, jobs⟩ := m
  dsimp only at hl h ⊢
  obtain ⟨va, vl, vc, rfl, hvl, _⟩ := ownS_slice h (.there .here)
  rw [rows_length itemC_len] at hvl
  refine ret_of is_ref11_Device_Peek rfl ?_
  repeat' (first | refine stPs ?_ | (refine stC0_P11d ?_; rintro _ w ⟨bx, rfl, h⟩) | (refine p_cmp rfl rfl rfl rfl (fun hc => ?_) (fun hc => ?_) <;> simp only [cmpProp] at hc) | refine p_eqa rfl rfl rfl rfl rfl rfl (fun hc => ?_) (fun hc => ?_) | (refine r_cmp rfl rfl rfl rfl rfl (fun hc => ?_) (fun hc => ?_) <;> simp only [cmpProp] at hc) | refine r_eqa rfl rfl rfl rfl rfl rfl rfl (fun hc => ?_) (fun hc => ?_) | (refine x_drawn rfl ?_; have h := h.drew) | refine x_drawn rfl ?_ | fail)
  obtain ⟨q, rfl⟩ : ∃ q, q = bx := ⟨bx, rfl⟩
  refine x_keep [0, 3, 6] rfl ?_
  refine x_loop_inv (fun lm le w => ∃ (i : Nat), lm = vl - i ∧ i ≤ vl ∧ (∀ j p, j < i → items[j]? = some p → p.1 ≠ (a, n)) ∧ le = [(0, .pointer (some ⟨mb, 0, none⟩)), (3, .pointer (some ⟨q, 0, none⟩)), (6, .int .i64 i)] ∧ Sat S w (pt q (.cells #[.int .i64 a, .int .i64 n] T.api_Block (0, 0)) :: pt mb (.cells #[.bool off, .slice va vl vc, jv] T.haycroftref11_Device (0, 0)) :: ownS T.haycroftref11_Item 3 (.slice va vl vc) (rows itemC items) :: ownS T.haycroftref11_Job 6 jv (rows jobDC jobs) :: G)) (vl) ⟨0, rfl, by omega, fun j p hj => by omega, rfl, h⟩ ?_
  clear h
  rintro lm le w ⟨i, rfl, hi0, hi1, rfl, h⟩ ih
  by_cases hi : i < vl
  · obtain ⟨y, hyi⟩ := has_elem (show i < items.length by omega)
    obtain ⟨vo, rfl⟩ := ownS_addr (E := T.haycroftref11_Item) h (.there (.there .here)) (by omega)
    obtain ⟨⟨ya, yn⟩, ys⟩ := y
    repeat' (first | (refine gLR ?_; first | (refine r_own rfl rfl rfl h (fun w h => g_ldP (i := i) (f := 0) (us := [.int .i64 ya, .int .i64 yn]) itemC_len rfl (ownS_rd h (by repeat first | exact .here | apply Has.there)) hyi rfl (item_b ((ya, yn), ys)) (by omega)) ?_) | (refine r_own rfl rfl rfl h (fun w h => g_ldq (vs := [.int .i64 a, .int .i64 n]) rfl (h.at (by repeat first | exact .here | apply Has.there)) rfl rfl) ?_)) | (refine gL ?_; refine p_val rfl (g_ldF (i := i) (f := 2) itemC_len rfl (ownS_rd h (by repeat first | exact .here | apply Has.there)) hyi rfl (by omega)) ?_) | refine stP ?_ | (refine stC0_P11d ?_; rintro _ w ⟨bx, rfl, h⟩) | (refine p_cmp rfl rfl rfl rfl (fun hc => ?_) (fun hc => ?_) <;> simp only [cmpProp] at hc) | refine p_eqa rfl rfl rfl rfl rfl rfl (fun hc => ?_) (fun hc => ?_) | (refine r_cmp rfl rfl rfl rfl rfl (fun hc => ?_) (fun hc => ?_) <;> simp only [cmpProp] at hc) | refine r_eqa rfl rfl rfl rfl rfl rfl rfl (fun hc => ?_) (fun hc => ?_) | (refine x_drawn rfl ?_; have h := h.drew) | refine x_drawn rfl ?_ | fail)
    · obtain ⟨rfl, rfl, _⟩ := hc
      exact x_ret' is_ref11_Device_Peek rfl ⟨by rw [getL_at hyi hi1]; rfl, h.pm3⟩
    · exact x_keep [0, 3, 6] rfl (ih _ _ _ (by omega) ⟨i + 1, rfl, by omega, lt_next hi1 hyi (fun e => hc ⟨(Prod.mk.inj e).1, (Prod.mk.inj e).2, trivial⟩), rfl, h.pm4⟩)
  · obtain rfl : i = vl := by omega
    have hg : getL (a, n) items = none := getL_no (fun j p hj => hi1 j p (by omega))
    rw [hg]
    repeat' (first | refine stPs ?_ | (refine stC0_P11d ?_; rintro _ w ⟨bx, rfl, h⟩) | (refine p_cmp rfl rfl rfl rfl (fun hc => ?_) (fun hc => ?_) <;> simp only [cmpProp] at hc) | refine p_eqa rfl rfl rfl rfl rfl rfl (fun hc => ?_) (fun hc => ?_) | (refine r_cmp rfl rfl rfl rfl rfl (fun hc => ?_) (fun hc => ?_) <;> simp only [cmpProp] at hc) | refine r_eqa rfl rfl rfl rfl rfl rfl rfl (fun hc => ?_) (fun hc => ?_) | (refine x_drawn rfl ?_; have h := h.drew) | refine x_drawn rfl ?_ | fail)
    exact x_ret' is_ref11_Device_Peek rfl ⟨rfl, h.pm3⟩
theorem ref11_Device_Flight_spec {mb : Nat} {iv jv : Value} (m : DocM) (hl : m.jobs.length ≤ 1000) (h : Sat S w (pt mb (.cells #[.bool (m).off, iv, jv] T.haycroftref11_Device (0, 0)) :: ownS T.haycroftref11_Item 3 iv (rows itemC (m).items) :: ownS T.haycroftref11_Job 6 jv (rows jobDC (m).jobs) :: G)) :
    Ret Try.prog F.ref11_Device_Flight #[.pointer (some ⟨mb, 0, none⟩)] w (fun v w' => Sat S w' (ownS T.int 1 v (ints .i64 (flightGo 0 m.jobs)) :: pt mb (.cells #[.bool (m).off, iv, jv] T.haycroftref11_Device (0, 0)) :: ownS T.haycroftref11_Item 3 iv (rows itemC (m).items) :: ownS T.haycroftref11_Job 6 jv (rows jobDC (m).jobs) :: G)) := by
  obtain ⟨off, items, jobs⟩ := m
  dsimp only at hl h ⊢
  obtain ⟨va, vl, vc, rfl, hvl, _⟩ := ownS_slice h (.there (.there .here))
  rw [rows_length jobDC_len] at hvl
  refine ret_of is_ref11_Device_Flight rfl ?_
  repeat' (first | refine stPs ?_ | (refine p_cmp rfl rfl rfl rfl (fun hc => ?_) (fun hc => ?_) <;> simp only [cmpProp] at hc) | fail)
  refine p_lit [] rfl rfl rfl rfl rfl rfl h (fun v w h => ?_)
  obtain ⟨v1, v2, v3, rfl, _, _⟩ := ownS_slice h .here
  repeat' (first | refine stPs ?_ | (refine p_cmp rfl rfl rfl rfl (fun hc => ?_) (fun hc => ?_) <;> simp only [cmpProp] at hc) | fail)
  refine x_keep [0, 3, 4] rfl ?_
  refine x_loop_inv (fun lm le w => ∃ (i : Nat), ∃ (out : IL), ∃ (vo : Value), lm = vl - i ∧ i ≤ vl ∧ out.length ≤ i ∧ out ++ flightGo i (jobs.drop i) = flightGo 0 jobs ∧ le = [(0, .pointer (some ⟨mb, 0, none⟩)), (3, vo), (4, .int .i64 i)] ∧ Sat S w (ownS T.int 1 vo (ints .i64 out) :: pt mb (.cells #[.bool off, iv, .slice va vl vc] T.haycroftref11_Device (0, 0)) :: ownS T.haycroftref11_Item 3 iv (rows itemC items) :: ownS T.haycroftref11_Job 6 (.slice va vl vc) (rows jobDC jobs) :: G)) (vl) ⟨0, [], _, rfl, by omega, Nat.le_refl _, rfl, rfl, h⟩ ?_
  clear h
  rintro lm le w ⟨i, out, vo, rfl, hi0, hi1, hi2, rfl, h⟩ ih
  obtain ⟨w1, w2, w3, rfl, _, _⟩ := ownS_slice h .here
  by_cases hi : i < vl
  · obtain ⟨y, hyi⟩ := has_elem (show i < jobs.length by omega)
    obtain ⟨vo, rfl⟩ := ownS_addr (E := T.haycroftref11_Job) h (.there (.there (.there .here))) (by omega)
    have hdr := drop_next hyi
    rw [hdr, flightGo] at hi2
    by_cases hs : y.state = 0
    · rw [if_pos hs] at hi2
      repeat' (first | (refine gL ?_; refine p_val (dst := some 22) rfl (g_ldF (i := i) (f := 5) jobDC_len rfl (ownS_rd h (by repeat first | exact .here | apply Has.there)) hyi rfl (by omega)) ?_; rw [hs]) | (refine p_do rfl (d_lit (ints .i64 [(i : Int) + 1]) rfl rfl rfl rfl rfl h) ?_; intro v9 w h) | (refine p_do rfl (d_appR rfl rfl rfl (by decide) (h.pick (.there .here)) (ownS_rd h .here) (ints_one _ _) (by simp [ints_length]; omega) (by simp [ints_length]; omega)) ?_; intro v8 w h; rw [← ints_app] at h; obtain ⟨_, _, _, rfl, _, _⟩ := ownS_slice h .here) | refine stP ?_ | (refine p_cmp rfl rfl rfl rfl (fun hc => ?_) (fun hc => ?_) <;> simp only [cmpProp] at hc) | fail)
      exact x_keep [0, 3, 4] rfl (ih _ _ _ (by omega) ⟨i + 1, out ++ [(i : Int) + 1], _, rfl, by omega, by rw [List.length_append, List.length_singleton]; omega, by rw [List.append_assoc]; exact hi2, rfl, h.pm4⟩)
    · rw [if_neg hs] at hi2
      repeat' (first | contradiction | (refine gL ?_; refine p_val (dst := some 22) rfl (g_ldF (i := i) (f := 5) jobDC_len rfl (ownS_rd h (by repeat first | exact .here | apply Has.there)) hyi rfl (by omega)) ?_) | refine stP ?_ | (refine p_cmp rfl rfl rfl rfl (fun hc => ?_) (fun hc => ?_) <;> simp only [cmpProp] at hc) | fail)
      exact x_keep [0, 3, 4] rfl (ih _ _ _ (by omega) ⟨i + 1, out, _, rfl, by omega, by omega, hi2, rfl, h.pm4⟩)
  · obtain rfl : i = vl := by omega
    rw [List.drop_eq_nil_of_le (by omega), flightGo, List.append_nil] at hi2
    repeat' (first | refine stPs ?_ | (refine p_cmp rfl rfl rfl rfl (fun hc => ?_) (fun hc => ?_) <;> simp only [cmpProp] at hc) | fail)
    exact x_ret' is_ref11_Device_Flight rfl (by rw [← hi2]; exact h)
theorem ref11_Device_At_spec {mb : Nat} {iv jv : Value} (m : DocM) (t st : Int) (hl : m.jobs.length ≤ 1000) (ht : -9223372036854775808 ≤ t) (h : Sat S w (pt mb (.cells #[.bool (m).off, iv, jv] T.haycroftref11_Device (0, 0)) :: ownS T.haycroftref11_Item 3 iv (rows itemC (m).items) :: ownS T.haycroftref11_Job 6 jv (rows jobDC (m).jobs) :: G)) :
    Ret Try.prog F.ref11_Device_At #[.pointer (some ⟨mb, 0, none⟩), .int .i64 t, .int .i64 st] w (fun v w' => BoolIs v (atD m.jobs t st) ∧ Sat S w' (pt mb (.cells #[.bool (m).off, iv, jv] T.haycroftref11_Device (0, 0)) :: ownS T.haycroftref11_Item 3 iv (rows itemC (m).items) :: ownS T.haycroftref11_Job 6 jv (rows jobDC (m).jobs) :: G)) := by
  obtain ⟨off, items, jobs⟩ := m
  dsimp only at hl h ⊢
  obtain ⟨va, vl, vc, rfl, hvl, _⟩ := ownS_slice h (.there (.there .here))
  rw [rows_length jobDC_len] at hvl
  refine ret_of is_ref11_Device_At rfl ?_
  by_cases hin : 1 ≤ t ∧ t ≤ vl
  · obtain ⟨k, hk⟩ := Int.eq_ofNat_of_zero_le (show 0 ≤ t - 1 by omega)
    obtain rfl : t = (k : Int) + 1 := by omega
    obtain ⟨y, hyk⟩ := has_elem (show k < jobs.length by omega)
    obtain ⟨vo, rfl⟩ := ownS_addr (E := T.haycroftref11_Job) h (.there (.there .here)) (by omega)
    have e1 : ((k : Int) + 1 - 1).toNat = k := by omega
    repeat' (first | (refine gL ?_; refine p_val (dst := some 27) rfl (g_ldF (i := k) (f := 5) jobDC_len rfl (ownS_rd h (by repeat first | exact .here | apply Has.there)) hyk rfl (by omega)) ?_) | refine stP ?_ | (refine p_cmp rfl rfl rfl rfl (fun hc => ?_) (fun hc => ?_) <;> simp only [cmpProp] at hc) | fail)
    · exact x_ret' is_ref11_Device_At rfl ⟨.t ⟨by omega, y, by rw [e1]; exact hyk, hc⟩, h.pm3⟩
    · exact x_ret' is_ref11_Device_At rfl ⟨.f (fun ⟨_, j, h2, h3⟩ => hc (by rw [e1, hyk] at h2; injection h2 with h2; rw [h2]; exact h3)), h.pm3⟩
  · have hno : ¬ atD jobs t st := fun ⟨h1, j, h2, _⟩ => hin ⟨h1, by have := (List.getElem?_eq_some_iff.1 h2).1; omega⟩
    repeat' (first | refine stPs ?_ | (refine p_cmp rfl rfl rfl rfl (fun hc => ?_) (fun hc => ?_) <;> simp only [cmpProp] at hc) | fail)
    all_goals first | (exfalso; omega) | exact x_ret' is_ref11_Device_At rfl ⟨.f hno, h⟩
theorem ref11_Device_Start_spec {mb : Nat} {iv jv : Value} (m : DocM) (h : Sat S w (pt mb (.cells #[.bool (m).off, iv, jv] T.haycroftref11_Device (0, 0)) :: ownS T.haycroftref11_Item 3 iv (rows itemC (m).items) :: ownS T.haycroftref11_Job 6 jv (rows jobDC (m).jobs) :: G)) :
    Ret Try.prog F.ref11_Device_Start #[.pointer (some ⟨mb, 0, none⟩)] w (fun v w' => v = .int .i64 (if m.off = true then 0 else 10) ∧ Sat S w' (pt mb (.cells #[.bool ({ m with off := false }).off, iv, jv] T.haycroftref11_Device (0, 0)) :: ownS T.haycroftref11_Item 3 iv (rows itemC ({ m with off := false }).items) :: ownS T.haycroftref11_Job 6 jv (rows jobDC ({ m with off := false }).jobs) :: G)) := by
  obtain ⟨off, items, jobs⟩ := m
  dsimp only at h ⊢
  refine ret_of is_ref11_Device_Start rfl ?_
  cases off
  · rw [if_neg (by simp)]
    repeat' (first | contradiction | refine stP ?_ | (refine stC1_P11d ?_; rintro _ w ⟨rfl, h⟩) | fail)
    exact x_ret' is_ref11_Device_Start rfl ⟨rfl, h.pm3⟩
  · rw [if_pos rfl]
    repeat' (first | contradiction | refine stP ?_ | (refine stC1_P11d ?_; rintro _ w ⟨rfl, h⟩) | fail)
    exact x_ret' is_ref11_Device_Start rfl ⟨rfl, h.pm3⟩
/-- Two lists of whole numbers are the same. -/
theorem ref11_Ints_spec {v u : Value} (l : List Int) (hl : l.length ≤ 1000) (hv : ∀ w, Sat S w G → RdS w 1 v (ints .i64 l)) (hu : ∀ w, Sat S w G → RdS w 1 u (ints .i64 l)) (h : Sat S w G) :
    Ret Try.prog F.ref11_Ints #[v, u] w (fun r w' => r = .bool true ∧ Sat S w' G) := by
  obtain ⟨va, vl, vc, rfl, _⟩ := hv w h
  obtain ⟨ua, ul, uc, rfl, _⟩ := hu w h
  have h1 := (hv w h).ilen
  have h2 := (hu w h).ilen
  refine ret_of is_ref11_Ints rfl ?_
  repeat' (first | (exfalso; omega) | refine stP ?_ | (refine p_cmp rfl rfl rfl rfl (fun hc => ?_) (fun hc => ?_) <;> simp only [cmpProp] at hc) | (refine r_cmp rfl rfl rfl rfl rfl (fun hc => ?_) (fun hc => ?_) <;> simp only [cmpProp] at hc) | (refine x_drawn rfl ?_; have h := h.drew) | refine x_drawn rfl ?_ | fail)
  refine x_keep [0, 1, 5] rfl ?_
  refine x_loop_inv (fun lm le w => ∃ (i : Nat), lm = vl - i ∧ i ≤ vl ∧ le = [(0, .slice va vl vc), (1, .slice ua ul uc), (5, .int .i64 i)] ∧ Sat S w (G)) (vl) ⟨0, rfl, by omega, rfl, h⟩ ?_
  clear h
  rintro lm le w ⟨i, rfl, hi0, rfl, h⟩ ih
  by_cases hi : i < vl
  · obtain ⟨vb, vo, rfl⟩ := (hv _ h).addr (by omega)
    obtain ⟨ub, uo, rfl⟩ := (hu _ h).addr (by omega)
    repeat' (first | contradiction | (refine gLR ?_; first | (refine r_own (dst := some 20) rfl rfl rfl h (fun w h => g_ldI (i := i) (xs := l) rfl (hv w h) (by omega) (by omega)) ?_) | (refine r_own (dst := some 24) rfl rfl rfl h (fun w h => g_ldI (i := i) (xs := l) rfl (hu w h) (by omega) (by omega)) ?_)) | refine stP ?_ | (refine p_cmp rfl rfl rfl rfl (fun hc => ?_) (fun hc => ?_) <;> simp only [cmpProp] at hc) | (refine r_cmp rfl rfl rfl rfl rfl (fun hc => ?_) (fun hc => ?_) <;> simp only [cmpProp] at hc) | (refine x_drawn rfl ?_; have h := h.drew) | refine x_drawn rfl ?_ | fail)
    exact x_keep [0, 1, 5] rfl (ih _ _ _ (by omega) ⟨i + 1, rfl, by omega, rfl, h⟩)
  · repeat' (first | refine stPs ?_ | (refine p_cmp rfl rfl rfl rfl (fun hc => ?_) (fun hc => ?_) <;> simp only [cmpProp] at hc) | (refine r_cmp rfl rfl rfl rfl rfl (fun hc => ?_) (fun hc => ?_) <;> simp only [cmpProp] at hc) | (refine x_drawn rfl ?_; have h := h.drew) | refine x_drawn rfl ?_ | fail)
    exact x_ret' is_ref11_Ints rfl ⟨rfl, h⟩
end
end Go.Proofs.Ytfchenbihepjaaa
