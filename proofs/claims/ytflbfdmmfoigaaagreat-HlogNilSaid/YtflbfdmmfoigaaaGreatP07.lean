/- Layer 7 (drain): what each function computes. -/
import Derived.Test.YtflbfdmmfoigaaaGreatHxS
import Derived.Test.YtflbfdmmfoigaaaGreatIr0
import Derived.Test.YtflbfdmmfoigaaaGreatIr1
namespace Go.Proofs.YtflbfdmmfoigaaaGreat
open Go Go.HX
attribute [local irreducible] Ret XRun XOps XDr XOne Does Gives
set_option maxRecDepth 4000
set_option maxHeartbeats 1000000

/-- An action. -/
structure ActM where
  ep : Int
  kind : Int
  page : Int
def actC (a : ActM) : List Value := [.int .u64 a.ep, .int .i64 a.kind, .int .i64 a.page]
theorem actC_len (a : ActM) : (actC a).length = 3 := rfl
theorem actC_one (a : ActM) : ∀ u ∈ actC a, u.oneCell' = true := by
  intro u hu
  simp only [actC, List.mem_cons, List.not_mem_nil, or_false] at hu
  rcases hu with rfl | rfl | rfl <;> rfl
def isList (b : Nat) (l : List ActM) : HProp := hex fun v => sep (pt b (.cells #[v] T.drain_List (0, 0))) (ownS T.api_Action 3 v (rows actC l))
def dueL (s : Int) (l : List ActM) : List ActM := l.filter (fun a => decide (a.ep ≤ s))
def restL (s : Int) (l : List ActM) : List ActM := l.filter (fun a => !decide (a.ep ≤ s))
def leastL (l : List ActM) : Int := l.foldl (fun m a => min m a.ep) ((l.head?.map (·.ep)).getD 0)
theorem leastL_next {l : List ActM} {i : Nat} {x : ActM} (hx : l[i]? = some x) : (i = 0 ∨ x.ep < leastL (l.take i) → leastL (l.take (i + 1)) = x.ep) ∧ (¬ (i = 0 ∨ x.ep < leastL (l.take i)) → leastL (l.take (i + 1)) = leastL (l.take i)) := by
  have hlt : (l.take i).length = i := by
    have := (List.getElem?_eq_some_iff.1 hx).1
    rw [List.length_take]; omega
  rw [take_next hx]
  cases hq : l.take i with
  | nil =>
    rw [hq] at hlt
    simp at hlt
    refine ⟨fun _ => by simp [leastL], fun hx => absurd (.inl hlt.symm) hx⟩
  | cons y r =>
    have hne : ¬ i = 0 := by rw [hq] at hlt; simp at hlt; omega
    simp only [leastL, List.cons_append, List.foldl_append, List.head?_cons, Option.map_some, Option.getD_some, List.foldl_cons, List.foldl_nil]
    exact ⟨fun _ => by omega, fun _ => by omega⟩
section
variable {S : SP} {w : World} {G : List HProp}
theorem isList_open {b : Nat} {l : List ActM} (h : Sat S w (isList b l :: G)) : ∃ a cap, Sat S w (pt b (.cells #[.slice a l.length cap] T.drain_List (0, 0)) :: ownS T.api_Action 3 (.slice a l.length cap) (rows actC l) :: G) := by
  unfold isList at h
  rw [Sat_ex] at h
  obtain ⟨v, h⟩ := h
  rw [Sat_sep] at h
  obtain ⟨a, len, cap, rfl, h1, _⟩ := ownS_slice h (.there .here)
  rw [rows_length actC_len] at h1
  obtain rfl : len = l.length := by omega
  exact ⟨a, cap, h⟩
theorem isList_shut {b : Nat} {l : List ActM} {v : Value} {G1 G2 : List HProp} (h : Sat S w G) (h1 : Has G (pt b (.cells #[v] T.drain_List (0, 0))) G1) (h2 : Has G1 (ownS T.api_Action 3 v (rows actC l)) G2) : Sat S w (isList b l :: G2) := by
  unfold isList
  rw [Sat_ex]
  refine ⟨v, Sat_sep.2 ?_⟩
  refine (h.pick h1).eq ?_
  show sep _ (sepL G1) = sep _ (sepL _)
  rw [h2.eq]

theorem drain_New_spec (h : Sat S w G) : Ret Tryz.prog F.drain_New #[] w (fun v w' => ∃ b, v = .pointer (some ⟨b, 0, none⟩) ∧ Sat S w' (isList b [] :: G)) := by
  refine ret_of is_drain_New rfl ?_
  repeat' (first | refine stPs ?_ | fail)
  refine p_do rfl (d_box rfl h) ?_
  rintro _ w ⟨b, rfl, h⟩
  repeat' (first | refine stPs ?_ | fail)
  refine x_ret' is_drain_New rfl ⟨b, rfl, ?_⟩
  have h := (ownS_none (E := T.api_Action) (n := 3) h)
  exact isList_shut (l := []) h (.there .here) .here

theorem drain_List_Put_spec {b : Nat} {l : List ActM} (a : ActM) (hl : l.length ≤ 1000000) (h : Sat S w (isList b l :: G)) :
    Ret Tryz.prog F.drain_List_Put #[.pointer (some ⟨b, 0, none⟩), .agg (actC a).toArray] w (fun v w' => v = .int .i64 (if 16 ≤ l.length then 9 else 0) ∧ Sat S w' (isList b (if 16 ≤ l.length then l else l ++ [a]) :: G)) := by
  refine ret_of is_drain_List_Put rfl ?_
  obtain ⟨ad, cap, h⟩ := isList_open h
  repeat' (first | refine stPs ?_ | (refine p_cmp rfl rfl rfl rfl (fun hc => ?_) (fun hc => ?_) <;> simp only [cmpProp] at hc) | (refine r_cmp rfl rfl rfl rfl rfl (fun hc => ?_) (fun hc => ?_) <;> simp only [cmpProp] at hc) | (refine x_drawn rfl ?_; have h := h.drew) | refine x_drawn rfl ?_ | fail)
  refine p_do rfl (d_box rfl h) ?_
  rintro _ w ⟨b3, rfl, h⟩
  repeat' (first | refine stPs ?_ | (refine p_cmp rfl rfl rfl rfl (fun hc => ?_) (fun hc => ?_) <;> simp only [cmpProp] at hc) | (refine r_cmp rfl rfl rfl rfl rfl (fun hc => ?_) (fun hc => ?_) <;> simp only [cmpProp] at hc) | (refine x_drawn rfl ?_; have h := h.drew) | refine x_drawn rfl ?_ | fail)
  · refine x_ret' is_drain_List_Put rfl ⟨by rw [if_pos (by omega)]; rfl, ?_⟩
    rw [if_pos (by omega)]
    exact (isList_shut h (by repeat first | exact .here | apply Has.there) (by repeat first | exact .here | apply Has.there)).sub (.cons .here (by repeat first | exact .refl _ | apply Sub.skip))
  · refine r_do rfl rfl (d_lit (actC a) rfl rfl rfl rfl rfl h) ?_
    rintro v6 w h
    refine nowa ?_
    repeat' (first | refine stPs ?_ | (refine p_cmp rfl rfl rfl rfl (fun hc => ?_) (fun hc => ?_) <;> simp only [cmpProp] at hc) | (refine r_cmp rfl rfl rfl rfl rfl (fun hc => ?_) (fun hc => ?_) <;> simp only [cmpProp] at hc) | (refine x_drawn rfl ?_; have h := h.drew) | refine x_drawn rfl ?_ | fail)
    refine r_do rfl rfl (d_appR rfl rfl rfl (by decide) (h.pick (by repeat first | exact .here | apply Has.there)) (ownS_rd h .here) (actC_one a) (by rw [rows_length actC_len]; simp [actC]; omega) (by rw [rows_length actC_len]; simp [actC]; omega)) ?_
    rintro v7 w h
    refine nowa ?_
    repeat' (first | refine stPs ?_ | (refine p_cmp rfl rfl rfl rfl (fun hc => ?_) (fun hc => ?_) <;> simp only [cmpProp] at hc) | (refine r_cmp rfl rfl rfl rfl rfl (fun hc => ?_) (fun hc => ?_) <;> simp only [cmpProp] at hc) | (refine x_drawn rfl ?_; have h := h.drew) | refine x_drawn rfl ?_ | fail)
    refine r_do rfl rfl (d_st rfl rfl (ownS_cell h (by repeat first | exact .here | apply Has.there)) (h.pick (by repeat first | exact .here | apply Has.there)) (by simp)) ?_
    rintro _ w ⟨rfl, h⟩
    refine nowa ?_
    repeat' (first | refine stPs ?_ | (refine p_cmp rfl rfl rfl rfl (fun hc => ?_) (fun hc => ?_) <;> simp only [cmpProp] at hc) | (refine r_cmp rfl rfl rfl rfl rfl (fun hc => ?_) (fun hc => ?_) <;> simp only [cmpProp] at hc) | (refine x_drawn rfl ?_; have h := h.drew) | refine x_drawn rfl ?_ | fail)
    refine x_ret' is_drain_List_Put rfl ⟨by rw [if_neg (by omega)]; rfl, ?_⟩
    rw [if_neg (by omega)]
    have e : rows actC l ++ actC a = rows actC (l ++ [a]) := by rw [rows_append, rows_one]
    rw [e] at h
    exact (isList_shut h (by repeat first | exact .here | apply Has.there) (by repeat first | exact .here | apply Has.there)).sub (.cons .here (by repeat first | exact .refl _ | apply Sub.skip))

theorem drain_List_Put_nil (v : Value) (h : Sat S w G) :
    Ret Tryz.prog F.drain_List_Put #[.pointer none, v] w (fun v w' => v = .int .i64 2 ∧ Sat S w' G) := by
  refine ret_of is_drain_List_Put rfl ?_
  refine x_seq ?_
  repeat' (first | (refine p_do rfl (d_box rfl h) ?_; rintro _ w ⟨b3, rfl, h⟩) | refine stP ?_ | (refine p_cmp rfl rfl rfl rfl (fun hc => ?_) (fun hc => ?_) <;> simp only [cmpProp] at hc) | (refine r_cmp rfl rfl rfl rfl rfl (fun hc => ?_) (fun hc => ?_) <;> simp only [cmpProp] at hc) | (refine x_drawn rfl ?_; have h := h.drew) | refine x_drawn rfl ?_ | fail)
  exact x_ret' is_drain_List_Put rfl ⟨rfl, h.drop⟩

theorem drain_List_Ready_spec {b : Nat} {l : List ActM} (s : Int) (hl : l.length ≤ 1000000) (h : Sat S w (isList b l :: G)) :
    Ret Tryz.prog F.drain_List_Ready #[.pointer (some ⟨b, 0, none⟩), .int .u64 s] w (fun v w' => Sat S w' (ownS T.api_Action 3 v (rows actC (dueL s l)) :: isList b (restL s l) :: G)) := by
  refine ret_of is_drain_List_Ready rfl ?_
  obtain ⟨ad, cap, h⟩ := isList_open h
  repeat' (first | refine stPs ?_ | (refine p_cmp rfl rfl rfl rfl (fun hc => ?_) (fun hc => ?_) <;> simp only [cmpProp] at hc) | fail)
  have h := ownS_none (E := T.api_Action) (n := 3) (ownS_none (E := T.api_Action) (n := 3) h)
  refine x_keep [0, 1, 5, 6, 14, 15, 16] rfl ?_
  refine x_loop_inv (fun lm le w => ∃ (i : Nat), ∃ (v5 v6 : Value), lm = l.length - i ∧ i ≤ l.length ∧ le = [(0, .pointer (some ⟨b, 0, none⟩)), (1, .int .u64 s), (5, v5), (6, v6), (14, .slice ad l.length cap), (15, .int .i64 l.length), (16, .int .i64 i)] ∧ Sat S w (ownS T.api_Action 3 v5 (rows actC (dueL s (l.take i))) :: ownS T.api_Action 3 v6 (rows actC (restL s (l.take i))) :: pt b (.cells #[.slice ad l.length cap] T.drain_List (0, 0)) :: ownS T.api_Action 3 (.slice ad l.length cap) (rows actC l) :: G)) (l.length) ⟨0, _, _, rfl, by omega, rfl, h⟩ ?_
  clear h
  rintro lm le w ⟨i, v5, v6, rfl, hi0, rfl, h⟩ ih
  by_cases h1 : i < l.length
  · obtain ⟨x, hx⟩ := has_elem h1
    have hrd := ownS_rd (v := .slice ad l.length cap) h (by repeat first | exact .here | apply Has.there)
    obtain ⟨bb, o, rfl⟩ := hrd.addr (by omega)
    have hd := take_next hx
    have ht : (l.take i).length ≤ 1000000 := by rw [List.length_take]; omega
    repeat' (first | refine stPs ?_ | (refine p_cmp rfl rfl rfl rfl (fun hc => ?_) (fun hc => ?_) <;> simp only [cmpProp] at hc) | fail)
    refine p_val rfl (g_ldE actC_len rfl hrd hx (by omega)) ?_
    refine p_do rfl (d_new h) ?_
    rintro _ w ⟨b8, rfl, h⟩
    refine p_do rfl (d_stn rfl rfl rfl (actC_one x) h (by decide)) ?_
    rintro _ w ⟨rfl, h⟩
    have e8 : setR (Value.cells (Value.agg #[Value.int IntKind.u64 0, Value.int IntKind.i64 0, Value.int IntKind.i64 0])) 0 (Value.cells (Value.agg (actC x).toArray)).toList = (actC x).toArray := rfl
    rw [e8] at h
    repeat' (first | refine stPs ?_ | (refine p_cmp rfl rfl rfl rfl (fun hc => ?_) (fun hc => ?_) <;> simp only [cmpProp] at hc) | fail)
    · refine p_lit (actC x) rfl rfl rfl rfl rfl rfl h (fun v w h => ?_)
      refine p_app rfl rfl rfl rfl (by decide) (h.pick (by repeat first | exact .here | apply Has.there)) (ownS_rd h .here) (actC_one x) ?_ ?_ (fun v w h => ?_)
      · rw [rows_length actC_len]
        have := List.length_filter_le (fun a : ActM => decide (a.ep ≤ s)) (l.take i)
        simp [actC, dueL]
        omega
      · rw [rows_length actC_len]
        have := List.length_filter_le (fun a : ActM => decide (a.ep ≤ s)) (l.take i)
        simp [actC, dueL]
        omega
      repeat' (first | refine stPs ?_ | (refine p_cmp rfl rfl rfl rfl (fun hc => ?_) (fun hc => ?_) <;> simp only [cmpProp] at hc) | fail)
      have e1 : rows actC (dueL s (l.take i)) ++ actC x = rows actC (dueL s (l.take (i + 1))) := by rw [hd, dueL, dueL, List.filter_append, rows_append]; simp [hc, rows]
      have e2 : restL s (l.take i) = restL s (l.take (i + 1)) := by rw [hd, restL, restL, List.filter_append]; simp [hc]
      rw [e1, e2] at h
      refine x_keep [0, 1, 5, 6, 14, 15, 16] rfl (ih _ _ _ (by omega) ⟨i + 1, _, _, rfl, by omega, rfl, ?_⟩)
      exact h.sub (.cons (by repeat first | exact .here | apply Has.there) (.cons (by repeat first | exact .here | apply Has.there) (.cons (by repeat first | exact .here | apply Has.there) (.cons (by repeat first | exact .here | apply Has.there) (by repeat first | exact .refl _ | apply Sub.skip)))))
    · refine p_lit (actC x) rfl rfl rfl rfl rfl rfl h (fun v w h => ?_)
      refine p_app rfl rfl rfl rfl (by decide) (h.pick (by repeat first | exact .here | apply Has.there)) (ownS_rd h .here) (actC_one x) ?_ ?_ (fun v w h => ?_)
      · rw [rows_length actC_len]
        have := List.length_filter_le (fun a : ActM => !decide (a.ep ≤ s)) (l.take i)
        simp [actC, restL]
        omega
      · rw [rows_length actC_len]
        have := List.length_filter_le (fun a : ActM => !decide (a.ep ≤ s)) (l.take i)
        simp [actC, restL]
        omega
      repeat' (first | refine stPs ?_ | (refine p_cmp rfl rfl rfl rfl (fun hc => ?_) (fun hc => ?_) <;> simp only [cmpProp] at hc) | fail)
      have e1 : rows actC (restL s (l.take i)) ++ actC x = rows actC (restL s (l.take (i + 1))) := by rw [hd, restL, restL, List.filter_append, rows_append]; simp [hc, rows]
      have e2 : dueL s (l.take i) = dueL s (l.take (i + 1)) := by rw [hd, dueL, dueL, List.filter_append]; simp [hc]
      rw [e1, e2] at h
      refine x_keep [0, 1, 5, 6, 14, 15, 16] rfl (ih _ _ _ (by omega) ⟨i + 1, _, _, rfl, by omega, rfl, ?_⟩)
      exact h.sub (.cons (by repeat first | exact .here | apply Has.there) (.cons (by repeat first | exact .here | apply Has.there) (.cons (by repeat first | exact .here | apply Has.there) (.cons (by repeat first | exact .here | apply Has.there) (by repeat first | exact .refl _ | apply Sub.skip)))))
  · obtain rfl : i = l.length := by omega
    rw [List.take_length] at h
    repeat' (first | refine stPs ?_ | (refine p_cmp rfl rfl rfl rfl (fun hc => ?_) (fun hc => ?_) <;> simp only [cmpProp] at hc) | fail)
    refine p_do rfl (d_st rfl rfl (ownS_cell h (by repeat first | exact .here | apply Has.there)) (h.pick (by repeat first | exact .here | apply Has.there)) (by simp)) ?_
    rintro _ w ⟨rfl, h⟩
    repeat' (first | refine stPs ?_ | (refine p_cmp rfl rfl rfl rfl (fun hc => ?_) (fun hc => ?_) <;> simp only [cmpProp] at hc) | fail)
    refine x_ret' is_drain_List_Ready rfl ?_
    have h := isList_shut (l := restL s l) h (by repeat first | exact .here | apply Has.there) (by repeat first | exact .here | apply Has.there)
    exact h.sub (.cons (by repeat first | exact .here | apply Has.there) (.cons (by repeat first | exact .here | apply Has.there) (by repeat first | exact .refl _ | apply Sub.skip)))

theorem drain_List_Ready_nil (s : Int) (h : Sat S w G) :
    Ret Tryz.prog F.drain_List_Ready #[.pointer none, .int .u64 s] w (fun v w' => v = .slice none 0 0 ∧ Sat S w' G) := by
  refine ret_of is_drain_List_Ready rfl ?_
  repeat' (first | refine stPs ?_ | (refine p_cmp rfl rfl rfl rfl (fun hc => ?_) (fun hc => ?_) <;> simp only [cmpProp] at hc) | fail)
  exact x_ret' is_drain_List_Ready rfl ⟨rfl, h⟩

theorem slices_Clone_api_Action_api_Action_spec {v : Value} (l : List ActM) (hl : l.length ≤ 1000000) (hr : ∀ w, Sat S w G → RdS w 3 v (rows actC l)) (h : Sat S w G) :
    Ret Tryz.prog F.slices_Clone_api_Action_api_Action #[v] w (fun v w' => Sat S w' (ownS T.api_Action 3 v (rows actC l) :: G)) := by
  refine ret_of is_slices_Clone_api_Action_api_Action rfl ?_
  have hrd := hr w h
  have hq := hrd
  obtain ⟨a, len, cap, rfl, _⟩ := hq
  have hlen := hrd.rlen actC_len (by decide)
  cases a with
  | none =>
    repeat' (first | refine stPs ?_ | fail)
    obtain rfl : len = 0 := by
      rcases Nat.eq_zero_or_pos len with h0 | h0
      · exact h0
      · obtain ⟨b, o, hb⟩ := hrd.addr h0
        cases hb
    obtain rfl := List.eq_nil_of_length_eq_zero hlen
    exact x_ret' is_slices_Clone_api_Action_api_Action rfl (ownS_none h)
  | some a =>
    repeat' (first | refine stPs ?_ | fail)
    refine p_lit [] rfl rfl rfl rfl rfl rfl h (fun v w h => ?_)
    repeat' (first | refine stPs ?_ | fail)
    refine p_app rfl rfl rfl rfl (by decide) h (hr _ h.drop) (rows_cells actC_one l) ?_ ?_ (fun v w h => ?_)
    · rw [rows_length actC_len]; simp; omega
    · rw [rows_length actC_len]; simp; omega
    repeat' (first | refine stPs ?_ | fail)
    exact x_ret' is_slices_Clone_api_Action_api_Action rfl h

theorem drain_List_Waiting_spec {b : Nat} {l : List ActM} (hl : l.length ≤ 1000000) (h : Sat S w (isList b l :: G)) :
    Ret Tryz.prog F.drain_List_Waiting #[.pointer (some ⟨b, 0, none⟩)] w (fun v w' => Sat S w' (ownS T.api_Action 3 v (rows actC l) :: isList b l :: G)) := by
  refine ret_of is_drain_List_Waiting rfl ?_
  obtain ⟨ad, cap, h⟩ := isList_open h
  repeat' (first | refine stPs ?_ | fail)
  refine p_call rfl rfl (slices_Clone_api_Action_api_Action_spec l hl (fun w h => ownS_rd h (.there .here)) h) ?_
  rintro v w h
  repeat' (first | refine stPs ?_ | fail)
  refine x_ret' is_drain_List_Waiting rfl ?_
  exact (isList_shut (l := l) h (by repeat first | exact .here | apply Has.there) (.there .here)).sub (.cons (by repeat first | exact .here | apply Has.there) (.cons .here (by repeat first | exact .refl _ | apply Sub.skip)))

theorem drain_List_Waiting_nil (h : Sat S w G) : Ret Tryz.prog F.drain_List_Waiting #[.pointer none] w (fun v w' => v = .slice none 0 0 ∧ Sat S w' G) := by
  refine ret_of is_drain_List_Waiting rfl ?_
  repeat' (first | refine stPs ?_ | fail)
  exact x_ret' is_drain_List_Waiting rfl ⟨rfl, h⟩

theorem drain_List_Len_spec {b : Nat} {l : List ActM} (hl : l.length ≤ 1000000) (h : Sat S w (isList b l :: G)) :
    Ret Tryz.prog F.drain_List_Len #[.pointer (some ⟨b, 0, none⟩)] w (fun v w' => v = .int .i64 l.length ∧ Sat S w' (isList b l :: G)) := by
  refine ret_of is_drain_List_Len rfl ?_
  repeat' (first | refine stPs ?_ | fail)
  refine p_call rfl rfl (drain_List_Waiting_spec hl h) ?_
  rintro v w h
  obtain ⟨a, len, cap, rfl, _⟩ := ownS_slice h .here
  have hlen := (ownS_rd h .here).rlen actC_len (by decide)
  repeat' (first | refine stPs ?_ | fail)
  exact x_ret' is_drain_List_Len rfl ⟨by rw [hlen]; rfl, h.drop⟩

theorem drain_List_Len_nil (h : Sat S w G) : Ret Tryz.prog F.drain_List_Len #[.pointer none] w (fun v w' => v = .int .i64 0 ∧ Sat S w' G) := by
  refine ret_of is_drain_List_Len rfl ?_
  repeat' (first | (refine p_call rfl rfl (drain_List_Waiting_nil h) ?_; rintro _ w ⟨rfl, h⟩) | refine stP ?_ | fail)
  exact x_ret' is_drain_List_Len rfl ⟨rfl, h⟩


end
end Go.Proofs.YtflbfdmmfoigaaaGreat
