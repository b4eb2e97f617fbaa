/- Layer 13 (marks): what each function computes, and the document's answers. -/
import Derived.Test.YtflbfdmmfoigaaaGreatHxS
import Derived.Test.YtflbfdmmfoigaaaGreatP05
namespace Go.Proofs.YtflbfdmmfoigaaaGreat
open Go Go.HX
attribute [local irreducible] Ret XRun XOps XDr XOne Does Gives
set_option maxRecDepth 4000
set_option maxHeartbeats 1000000
def setOk (l : List Int) : Prop := l.length = 5 ∧ ∀ i, 0 ≤ l.getD i 0 ∧ l.getD i 0 ≤ 9223372036854775807
def isSet (b : Nat) (l : List Int) : HProp := hex fun c => hex fun r => hpure (r.ws = l ∧ setOk l) (sep (pt b (.cells #[.pointer (some ⟨c, 0, none⟩)] T.marks_Set (0, 0))) (isRow c r))
def isMark (k : Int) : Prop := 0 ≤ k ∧ k < 5
instance (k : Int) : Decidable (isMark k) := inferInstanceAs (Decidable (_ ∧ _))
def atM (l : List Int) (k : Int) : Int := if isMark k then l.getD k.toNat 0 else 0
def mostM (l : List Int) (k tail : Int) : Int := if isMark k then (if k = 0 then tail else l.getD (k - 1).toNat 0) else 0
def raiseM (l : List Int) (k to tail : Int) : Int × List Int := if ¬ isMark k then (1, l) else if to ≤ atM l k then (8, l) else if mostM l k tail < to then (13, l) else (0, l.set k.toNat to)
def regionM (l : List Int) (page tail : Int) : Int := if page < 0 ∨ tail < page then 0 else if l.getD 0 0 ≤ page then 1 else if l.getD 1 0 ≤ page then 2 else if l.getD 3 0 ≤ page then 3 else 4
theorem atM_ok {l : List Int} (h : setOk l) (k : Int) : 0 ≤ atM l k ∧ atM l k ≤ 9223372036854775807 := by
  unfold atM
  split
  · exact h.2 _
  · omega
theorem set_getD {l : List Int} {i j : Nat} {x : Int} (h : i < l.length) : (l.set i x).getD j 0 = if i = j then x else l.getD j 0 := by
  rw [List.getD_eq_getElem?_getD, List.getD_eq_getElem?_getD, List.getElem?_set]
  split
  · first | rfl | (rw [if_pos h]; rfl)
  · rfl
theorem set_setOk {l : List Int} (h : setOk l) {i : Nat} (hi : i < 5) {x : Int} (h0 : 0 ≤ x) (h1 : x ≤ 9223372036854775807) : setOk (l.set i x) := by
  refine ⟨by rw [List.length_set]; exact h.1, fun j => ?_⟩
  rw [set_getD (by rw [h.1]; exact hi)]
  split
  · exact ⟨h0, h1⟩
  · exact h.2 j
theorem raise_ok {l : List Int} (h : setOk l) {k to tail : Int} (h1 : to ≤ 9223372036854775807) : setOk (raiseM l k to tail).2 := by
  have ha := atM_ok h k
  unfold raiseM
  split
  · exact h
  · rename_i hk
    have hk : isMark k := Decidable.not_not.1 hk
    split
    · exact h
    · split
      · exact h
      · exact set_setOk h (by unfold isMark at hk; omega) (by omega) h1
section
variable {S : SP} {w : World} {G : List HProp}
theorem isSet_open {b : Nat} {l : List Int} (h : Sat S w (isSet b l :: G)) : ∃ c r, r.ws = l ∧ setOk l ∧ Sat S w (pt b (.cells #[.pointer (some ⟨c, 0, none⟩)] T.marks_Set (0, 0)) :: isRow c r :: G) := by
  unfold isSet at h
  rw [Sat_ex] at h
  obtain ⟨c, h⟩ := h
  rw [Sat_ex] at h
  obtain ⟨r, h⟩ := h
  rw [Sat_pure, Sat_sep] at h
  exact ⟨c, r, h.1.1, h.1.2, h.2⟩
theorem isSet_shut {b c : Nat} {l : List Int} {r : RowM} (h : Sat S w (pt b (.cells #[.pointer (some ⟨c, 0, none⟩)] T.marks_Set (0, 0)) :: isRow c r :: G)) (hr : r.ws = l) (hl : setOk l) : Sat S w (isSet b l :: G) := by
  unfold isSet
  rw [Sat_ex]
  refine ⟨c, ?_⟩
  rw [Sat_ex]
  exact ⟨r, by rw [Sat_pure, Sat_sep]; exact ⟨⟨hr, hl⟩, h⟩⟩

theorem marks_New_spec (h : Sat S w G) : Ret Tryz.prog F.marks_New #[] w (fun v w' => ∃ b, v = .pointer (some ⟨b, 0, none⟩) ∧ Sat S w' (isSet b [0, 0, 0, 0, 0] :: G)) := by
  refine ret_of is_marks_New rfl ?_
  repeat' (first | refine stPs ?_ | fail)
  refine p_call rfl rfl (cell_New_spec 5 h) ?_
  rintro _ w (⟨hn, _⟩ | ⟨_, _, c, rfl, h⟩)
  · exact absurd ⟨by decide, by decide⟩ hn
  repeat' (first | refine stPs ?_ | fail)
  refine p_do rfl (d_box rfl h) ?_
  rintro _ w ⟨b, rfl, h⟩
  repeat' (first | refine stPs ?_ | fail)
  refine x_ret' is_marks_New rfl ⟨b, rfl, isSet_shut h rfl ⟨rfl, fun i => ?_⟩⟩
  rcases i with _ | _ | _ | _ | _ | i <;> simp

theorem marks_there_spec (k : Int) (h : Sat S w G) : Ret Tryz.prog F.marks_there #[.int .i64 k] w (fun v w' => BoolIs v (isMark k) ∧ Sat S w' G) := by
  refine ret_of is_marks_there rfl ?_
  repeat' (first | refine stPs ?_ | (refine p_cmp rfl rfl rfl rfl (fun hc => ?_) (fun hc => ?_) <;> simp only [cmpProp] at hc) | fail)
  all_goals refine x_ret' is_marks_there rfl ⟨?_, h⟩
  all_goals first | exact .t ⟨by omega, by omega⟩ | exact .f (fun hx => by unfold isMark at hx; omega)

theorem marks_Set_At_spec {b : Nat} {l : List Int} (k : Int) (h : Sat S w (isSet b l :: G)) : Ret Tryz.prog F.marks_Set_At #[.pointer (some ⟨b, 0, none⟩), .int .i64 k] w (fun v w' => v = .int .i64 (atM l k) ∧ Sat S w' (isSet b l :: G)) := by
  refine ret_of is_marks_Set_At rfl ?_
  repeat' (first | (refine gC F.marks_there ?_; refine p_call rfl rfl (marks_there_spec _ h) ?_; rintro _ w ⟨⟨rfl, hk⟩ | ⟨rfl, hk⟩, h⟩) | refine stP ?_ | fail)
  · obtain ⟨c, r, hr, hok, h⟩ := isSet_open h
    repeat' (first | refine stPs ?_ | fail)
    refine p_call rfl rfl (cell_Row_Load_spec k (h.pick (.there .here))) ?_
    rintro _ w ⟨rfl, h⟩
    have hk' : 0 ≤ k ∧ k < r.ws.length := by rw [hr, hok.1]; exact hk
    have e : r.load k = atM l k := by rw [RowM.load, if_pos hk', atM, if_pos hk, hr]
    rw [e]
    have ha := atM_ok hok k
    repeat' (first | refine stPs ?_ | fail)
    exact x_ret' is_marks_Set_At rfl ⟨rfl, isSet_shut (h.pick (.there .here)) hr hok⟩
  · exact x_ret' is_marks_Set_At rfl ⟨by rw [atM, if_neg hk]; rfl, h⟩

theorem marks_Set_Most_spec {b : Nat} {l : List Int} (k tail : Int) (h : Sat S w (isSet b l :: G)) : Ret Tryz.prog F.marks_Set_Most #[.pointer (some ⟨b, 0, none⟩), .int .i64 k, .int .i64 tail] w (fun v w' => v = .int .i64 (mostM l k tail) ∧ Sat S w' (isSet b l :: G)) := by
  refine ret_of is_marks_Set_Most rfl ?_
  repeat' (first | refine stPs ?_ | (refine p_cmp rfl rfl rfl rfl (fun hc => ?_) (fun hc => ?_) <;> simp only [cmpProp] at hc) | fail)
  refine p_call rfl rfl (marks_there_spec k h) ?_
  rintro _ w ⟨⟨rfl, hk⟩ | ⟨rfl, hk⟩, h⟩
  · have hk' := hk
    unfold isMark at hk'
    by_cases h0 : k = 0
    · repeat' (first | refine stPs ?_ | (refine p_cmp rfl rfl rfl rfl (fun hc => ?_) (fun hc => ?_) <;> simp only [cmpProp] at hc) | fail)
      exact x_ret' is_marks_Set_Most rfl ⟨by rw [mostM, if_pos hk, if_pos h0]; rfl, h⟩
    · repeat' (first | refine stPs ?_ | (refine p_cmp rfl rfl rfl rfl (fun hc => ?_) (fun hc => ?_) <;> simp only [cmpProp] at hc) | fail)
      refine p_call rfl rfl (marks_Set_At_spec (k - 1) h) ?_
      rintro _ w ⟨rfl, h⟩
      repeat' (first | refine stPs ?_ | (refine p_cmp rfl rfl rfl rfl (fun hc => ?_) (fun hc => ?_) <;> simp only [cmpProp] at hc) | fail)
      exact x_ret' is_marks_Set_Most rfl ⟨by rw [mostM, if_pos hk, if_neg h0, atM, if_pos (show isMark (k - 1) from ⟨by omega, by omega⟩)]; rfl, h⟩
  · repeat' (first | refine stPs ?_ | (refine p_cmp rfl rfl rfl rfl (fun hc => ?_) (fun hc => ?_) <;> simp only [cmpProp] at hc) | fail)
    exact x_ret' is_marks_Set_Most rfl ⟨by rw [mostM, if_neg hk]; rfl, h⟩

theorem marks_Set_Raise_spec {b : Nat} {l : List Int} (k to tail : Int) (h1 : to ≤ 9223372036854775807) (h : Sat S w (isSet b l :: G)) : Ret Tryz.prog F.marks_Set_Raise #[.pointer (some ⟨b, 0, none⟩), .int .i64 k, .int .i64 to, .int .i64 tail] w (fun v w' => v = .int .i64 (raiseM l k to tail).1 ∧ Sat S w' (isSet b (raiseM l k to tail).2 :: G)) := by
  refine ret_of is_marks_Set_Raise rfl ?_
  repeat' (first | refine stPs ?_ | (refine p_cmp rfl rfl rfl rfl (fun hc => ?_) (fun hc => ?_) <;> simp only [cmpProp] at hc) | fail)
  refine p_call rfl rfl (marks_there_spec k h) ?_
  rintro _ w ⟨⟨rfl, hk⟩ | ⟨rfl, hk⟩, h⟩
  · repeat' (first | (refine gC F.marks_Set_At ?_; refine p_call rfl rfl (marks_Set_At_spec _ h) ?_; rintro _ w ⟨rfl, h⟩) | (refine gC F.marks_Set_Most ?_; refine p_call rfl rfl (marks_Set_Most_spec _ _ h) ?_; rintro _ w ⟨rfl, h⟩) | refine stP ?_ | (refine p_cmp rfl rfl rfl rfl (fun hc => ?_) (fun hc => ?_) <;> simp only [cmpProp] at hc) | fail)
    · exact x_ret' is_marks_Set_Raise rfl ⟨by rw [raiseM, if_neg (by simpa using hk), if_pos (by assumption)]; rfl, by rw [raiseM, if_neg (by simpa using hk), if_pos (by assumption)]; exact h⟩
    · exact x_ret' is_marks_Set_Raise rfl ⟨by rw [raiseM, if_neg (by simpa using hk), if_neg (by assumption), if_pos (by assumption)]; rfl, by rw [raiseM, if_neg (by simpa using hk), if_neg (by assumption), if_pos (by assumption)]; exact h⟩
    · obtain ⟨c, r, hr, hok, h⟩ := isSet_open h
      have ha := atM_ok hok k
      repeat' (first | refine stPs ?_ | (refine p_cmp rfl rfl rfl rfl (fun hc => ?_) (fun hc => ?_) <;> simp only [cmpProp] at hc) | fail)
      refine p_call rfl rfl (cell_Row_Store_spec k to (by omega) (by omega) (h.pick (.there .here))) ?_
      rintro _ w ⟨rfl, h⟩
      have hk' : 0 ≤ k ∧ k < r.ws.length := by rw [hr, hok.1]; exact hk
      rw [RowM.may, if_pos hk']
      rw [RowM.store, if_pos hk'] at h
      repeat' (first | refine stPs ?_ | (refine p_cmp rfl rfl rfl rfl (fun hc => ?_) (fun hc => ?_) <;> simp only [cmpProp] at hc) | fail)
      refine x_ret' is_marks_Set_Raise rfl ⟨by rw [raiseM, if_neg (by simpa using hk), if_neg (by assumption), if_neg (by assumption)]; rfl, ?_⟩
      rw [raiseM, if_neg (by simpa using hk), if_neg (by assumption), if_neg (by assumption)]
      exact isSet_shut (h.pick (.there .here)) (by rw [hr]) (set_setOk hok (by have := hk; unfold isMark at this; omega) (by omega) h1)
  · repeat' (first | refine stPs ?_ | (refine p_cmp rfl rfl rfl rfl (fun hc => ?_) (fun hc => ?_) <;> simp only [cmpProp] at hc) | fail)
    exact x_ret' is_marks_Set_Raise rfl ⟨by rw [raiseM, if_pos hk]; rfl, by rw [raiseM, if_pos hk]; exact h⟩

theorem marks_Set_Region_spec {b : Nat} {l : List Int} (page tail : Int) (h : Sat S w (isSet b l :: G)) : Ret Tryz.prog F.marks_Set_Region #[.pointer (some ⟨b, 0, none⟩), .int .i64 page, .int .i64 tail] w (fun v w' => v = .int .i64 (regionM l page tail) ∧ Sat S w' (isSet b l :: G)) := by
  refine ret_of is_marks_Set_Region rfl ?_
  have e0 : atM l 0 = l.getD 0 0 := rfl
  have e1 : atM l 1 = l.getD 1 0 := rfl
  have e3 : atM l 3 = l.getD 3 0 := rfl
  by_cases hp : page < 0 ∨ tail < page
  · repeat' (first | refine stPs ?_ | (refine p_cmp rfl rfl rfl rfl (fun hc => ?_) (fun hc => ?_) <;> simp only [cmpProp] at hc) | fail)
    all_goals first | (exfalso; omega) | exact x_ret' is_marks_Set_Region rfl ⟨by rw [regionM, if_pos hp]; rfl, h⟩
  · rw [regionM, if_neg hp]
    repeat' (first | (refine gC F.marks_Set_At ?_; refine p_call rfl rfl (marks_Set_At_spec _ h) ?_; rintro _ w ⟨rfl, h⟩) | refine stP ?_ | (refine p_cmp rfl rfl rfl rfl (fun hc => ?_) (fun hc => ?_) <;> simp only [cmpProp] at hc) | fail)
    · exact x_ret' is_marks_Set_Region rfl ⟨by rw [if_pos (by omega)]; rfl, h⟩
    · exact x_ret' is_marks_Set_Region rfl ⟨by rw [if_neg (by omega), if_pos (by omega)]; rfl, h⟩
    · exact x_ret' is_marks_Set_Region rfl ⟨by rw [if_neg (by omega), if_neg (by omega), if_pos (by omega)]; rfl, h⟩
    · exact x_ret' is_marks_Set_Region rfl ⟨by rw [if_neg (by omega), if_neg (by omega), if_neg (by omega)]; rfl, h⟩

theorem marks_Set_All_spec {b : Nat} {l : List Int} (h : Sat S w (isSet b l :: G)) : Ret Tryz.prog F.marks_Set_All #[.pointer (some ⟨b, 0, none⟩)] w (fun v w' => Sat S w' (ownS T.int 1 v (ints .i64 l) :: isSet b l :: G)) := by
  obtain ⟨_, _, _, hok, _⟩ := isSet_open h
  refine ret_of is_marks_Set_All rfl ?_
  repeat' (first | refine stPs ?_ | (refine p_cmp rfl rfl rfl rfl (fun hc => ?_) (fun hc => ?_) <;> simp only [cmpProp] at hc) | fail)
  have h := ownS_none (E := T.int) (n := 1) h
  refine x_keep [0, 3, 7] rfl ?_
  refine x_loop_inv (fun lm le w => ∃ (i : Nat), ∃ (v3 : Value), lm = 5 - i ∧ i ≤ 5 ∧ le = [(0, .pointer (some ⟨b, 0, none⟩)), (3, v3), (7, .int .i64 i)] ∧ Sat S w (ownS T.int 1 v3 (ints .i64 (l.take i)) :: isSet b l :: G)) (5) ⟨0, _, rfl, by omega, rfl, h⟩ ?_
  clear h
  rintro lm le w ⟨i, v3, rfl, hi0, rfl, h⟩ ih
  by_cases h1 : i < 5
  · have hx : l[i]? = some (l.getD i 0) := by rw [List.getD_eq_getElem?_getD, List.getElem?_eq_getElem (by rw [hok.1]; exact h1)]; rfl
    have ea : atM l (i : Int) = l.getD i 0 := by rw [atM, if_pos ⟨by omega, by omega⟩]; rfl
    have hlt : (l.take i).length = i := by rw [List.length_take, hok.1]; omega
    repeat' (first | refine stPs ?_ | (refine p_cmp rfl rfl rfl rfl (fun hc => ?_) (fun hc => ?_) <;> simp only [cmpProp] at hc) | fail)
    refine p_call rfl rfl (marks_Set_At_spec (i : Int) (h.pick (.there .here))) ?_
    rw [ea]
    rintro _ w ⟨rfl, h⟩
    repeat' (first | refine stPs ?_ | (refine p_cmp rfl rfl rfl rfl (fun hc => ?_) (fun hc => ?_) <;> simp only [cmpProp] at hc) | fail)
    refine p_lit [.int .i64 (l.getD i 0)] rfl rfl rfl rfl rfl rfl h (fun v w h => ?_)
    refine p_app rfl rfl rfl rfl (by decide) (h.pick (by repeat first | exact .here | apply Has.there)) (ownS_rd h .here) (by simp [Value.oneCell']) ?_ ?_ (fun v w h => ?_)
    · rw [ints_length]; simp only [List.length_singleton]; omega
    · rw [ints_length]; simp only [List.length_singleton]; omega
    repeat' (first | refine stPs ?_ | (refine p_cmp rfl rfl rfl rfl (fun hc => ?_) (fun hc => ?_) <;> simp only [cmpProp] at hc) | fail)
    have e1 : ints .i64 (l.take i) ++ [.int .i64 (l.getD i 0)] = ints .i64 (l.take (i + 1)) := by rw [take_next hx]; simp [ints]
    rw [e1] at h
    refine x_keep [0, 3, 7] rfl (ih _ _ _ (by omega) ⟨i + 1, _, rfl, by omega, rfl, ?_⟩)
    exact h.sub (.cons (by repeat first | exact .here | apply Has.there) (.cons (by repeat first | exact .here | apply Has.there) (by repeat first | exact .refl _ | apply Sub.skip)))
  · obtain rfl : i = 5 := by omega
    rw [List.take_of_length_le (by rw [hok.1]; exact Nat.le_refl _)] at h
    repeat' (first | refine stPs ?_ | (refine p_cmp rfl rfl rfl rfl (fun hc => ?_) (fun hc => ?_) <;> simp only [cmpProp] at hc) | fail)
    exact x_ret' is_marks_Set_All rfl h

theorem marks_Set_At_nil (k : Int) (h : Sat S w G) :
    Ret Tryz.prog F.marks_Set_At #[.pointer none, .int .i64 k] w (fun v w' => v = .int .i64 0 ∧ Sat S w' G) := by
  refine ret_of is_marks_Set_At rfl ?_
  repeat' (first | refine stPs ?_ | fail)
  all_goals exact x_ret' is_marks_Set_At rfl ⟨rfl, h⟩

theorem marks_Set_Most_nil (k : Int) (t : Int) (h : Sat S w G) :
    Ret Tryz.prog F.marks_Set_Most #[.pointer none, .int .i64 k, .int .i64 t] w (fun v w' => v = .int .i64 0 ∧ Sat S w' G) := by
  refine ret_of is_marks_Set_Most rfl ?_
  repeat' (first | refine stPs ?_ | (refine p_cmp rfl rfl rfl rfl (fun hc => ?_) (fun hc => ?_) <;> simp only [cmpProp] at hc) | fail)
  all_goals exact x_ret' is_marks_Set_Most rfl ⟨rfl, h⟩

theorem marks_Set_Raise_nil (k : Int) (x : Int) (t : Int) (h : Sat S w G) :
    Ret Tryz.prog F.marks_Set_Raise #[.pointer none, .int .i64 k, .int .i64 x, .int .i64 t] w (fun v w' => v = .int .i64 2 ∧ Sat S w' G) := by
  refine ret_of is_marks_Set_Raise rfl ?_
  repeat' (first | refine stPs ?_ | (refine p_cmp rfl rfl rfl rfl (fun hc => ?_) (fun hc => ?_) <;> simp only [cmpProp] at hc) | fail)
  all_goals exact x_ret' is_marks_Set_Raise rfl ⟨rfl, h⟩

theorem marks_Set_Region_nil (p : Int) (t : Int) (h : Sat S w G) :
    Ret Tryz.prog F.marks_Set_Region #[.pointer none, .int .i64 p, .int .i64 t] w (fun v w' => v = .int .i64 0 ∧ Sat S w' G) := by
  refine ret_of is_marks_Set_Region rfl ?_
  repeat' (first | refine stPs ?_ | (refine p_cmp rfl rfl rfl rfl (fun hc => ?_) (fun hc => ?_) <;> simp only [cmpProp] at hc) | fail)
  all_goals exact x_ret' is_marks_Set_Region rfl ⟨rfl, h⟩

theorem marks_Set_All_nil  (h : Sat S w G) :
    Ret Tryz.prog F.marks_Set_All #[.pointer none] w (fun v w' => v = .slice none 0 0 ∧ Sat S w' G) := by
  refine ret_of is_marks_Set_All rfl ?_
  repeat' (first | refine stPs ?_ | (refine p_cmp rfl rfl rfl rfl (fun hc => ?_) (fun hc => ?_) <;> simp only [cmpProp] at hc) | fail)
  all_goals exact x_ret' is_marks_Set_All rfl ⟨rfl, h⟩

theorem marks_Set_Begin_nil (p : Int) (h : Sat S w G) :
    Ret Tryz.prog F.marks_Set_Begin #[.pointer none, .int .i64 p] w (fun v w' => v = .int .i64 2 ∧ Sat S w' G) := by
  refine ret_of is_marks_Set_Begin rfl ?_
  repeat' (first | refine stPs ?_ | (refine p_cmp rfl rfl rfl rfl (fun hc => ?_) (fun hc => ?_) <;> simp only [cmpProp] at hc) | fail)
  all_goals exact x_ret' is_marks_Set_Begin rfl ⟨rfl, h⟩
def beginM (l : List Int) (page : Int) : Int × List Int := if page < 0 then (1, l) else if l ≠ [0, 0, 0, 0, 0] then (8, l) else (0, [page, page, page, page, page])
theorem zero_set {l : List Int} (h : l.length = 5) : l = [0, 0, 0, 0, 0] ↔ ∀ i, i < 5 → l.getD i 0 = 0 := by
  match l, h with
  | [a, b, c, d, e], _ =>
    constructor
    · intro h; simp at h; obtain ⟨rfl, rfl, rfl, rfl, rfl⟩ := h; intro i hi; rcases i with _ | _ | _ | _ | _ | i <;> simp
    · intro h
      have h0 := h 0 (by decide); have h1 := h 1 (by decide); have h2 := h 2 (by decide); have h3 := h 3 (by decide); have h4 := h 4 (by decide)
      simp at h0 h1 h2 h3 h4
      rw [h0, h1, h2, h3, h4]
def fillM (page : Int) (i : Nat) : List Int := List.replicate i page ++ List.replicate (5 - i) 0
theorem fillM_set (page : Int) {i : Nat} (h : i < 5) : (fillM page i).set i page = fillM page (i + 1) := by
  unfold fillM
  rw [List.set_append_right _ _ (by simp), List.length_replicate, Nat.sub_self, show 5 - i = (5 - (i + 1)) + 1 by omega, List.replicate_succ, List.set_cons_zero]
  simp [List.replicate_succ']
theorem fillM_ok {page : Int} (h0 : 0 ≤ page) (h1 : page ≤ 9223372036854775807) {i : Nat} (h : i ≤ 5) : setOk (fillM page i) := by
  refine ⟨by unfold fillM; simp; omega, fun j => ?_⟩
  unfold fillM
  rw [List.getD_eq_getElem?_getD, List.getElem?_append]
  split
  · rw [List.getElem?_replicate]; split <;> simp <;> omega
  · rw [List.getElem?_replicate]; split <;> simp

set_option maxHeartbeats 2000000 in
theorem marks_Set_Begin_spec {b : Nat} {l : List Int} (page : Int) (h1 : page ≤ 9223372036854775807) (h : Sat S w (isSet b l :: G)) : Ret Tryz.prog F.marks_Set_Begin #[.pointer (some ⟨b, 0, none⟩), .int .i64 page] w (fun v w' => v = .int .i64 (beginM l page).1 ∧ Sat S w' (isSet b (beginM l page).2 :: G)) := by
  obtain ⟨_, _, _, hok, _⟩ := isSet_open h
  refine ret_of is_marks_Set_Begin rfl ?_
  by_cases hp : page < 0
  · rw [beginM, if_pos hp]
    repeat' (first | refine stPs ?_ | (refine p_cmp rfl rfl rfl rfl (fun hc => ?_) (fun hc => ?_) <;> simp only [cmpProp] at hc) | fail)
    exact x_ret' is_marks_Set_Begin rfl ⟨rfl, h⟩
  · repeat' (first | refine stPs ?_ | (refine p_cmp rfl rfl rfl rfl (fun hc => ?_) (fun hc => ?_) <;> simp only [cmpProp] at hc) | fail)
    refine p_call rfl rfl (marks_Set_All_spec h) ?_
    rintro v15 w h
    obtain ⟨a, ln, cn, rfl, hln, _⟩ := ownS_slice h .here
    rw [ints_length, hok.1, Nat.mul_one] at hln
    subst hln
    obtain ⟨bn, rfl⟩ := ownS_addr h .here (by decide)
    repeat' (first | refine stPs ?_ | (refine p_cmp rfl rfl rfl rfl (fun hc => ?_) (fun hc => ?_) <;> simp only [cmpProp] at hc) | fail)
    refine x_keep [0, 1, 15, 16, 17] rfl ?_
    refine x_loop_inv (fun lm le w => ∃ (i : Nat), lm = 5 - i ∧ i ≤ 5 ∧ (∀ j, j < i → l.getD j 0 = 0) ∧ le = [(0, .pointer (some ⟨b, 0, none⟩)), (1, .int .i64 page), (15, .slice (some ⟨bn, 0, none⟩) 5 cn), (16, .int .i64 5), (17, .int .i64 i)] ∧ Sat S w (ownS T.int 1 (.slice (some ⟨bn, 0, none⟩) 5 cn) (ints .i64 l) :: isSet b l :: G)) (5) ⟨0, rfl, by omega, fun j hj => absurd hj (by omega), rfl, h⟩ ?_
    clear h
    rintro lm le w ⟨i, rfl, hi0, hi1, rfl, h⟩ ih
    by_cases h2 : i < 5
    · have hrd := ownS_rd h .here
      have hl := hok.1
      generalize hq : l.getD i 0 = q at *
      repeat' (first | (refine gL ?_; refine p_val rfl (g_ldI (i := i) rfl hrd (by omega) (by omega)) ?_; rw [hq]) | refine stP ?_ | (refine p_cmp rfl rfl rfl rfl (fun hc => ?_) (fun hc => ?_) <;> simp only [cmpProp] at hc) | fail)
      · have hne : l ≠ [0, 0, 0, 0, 0] := fun he => hc (by rw [← hq]; exact (zero_set hl).1 he i h2)
        exact x_ret' is_marks_Set_Begin rfl ⟨by rw [beginM, if_neg hp, if_pos hne]; rfl, by rw [beginM, if_neg hp, if_pos hne]; exact h.drop⟩
      · refine x_keep [0, 1, 15, 16, 17] rfl (ih _ _ _ (by omega) ⟨i + 1, rfl, by omega, fun j hj => ?_, rfl, h⟩)
        rcases Nat.lt_or_ge j i with hji | hji
        · exact hi1 j hji
        · obtain rfl : j = i := by omega
          omega
    · obtain rfl : i = 5 := by omega
      obtain rfl := (zero_set hok.1).2 hi1
      have h : Sat S w (isSet b (fillM page 0) :: G) := h.drop
      repeat' (first | refine stPs ?_ | (refine p_cmp rfl rfl rfl rfl (fun hc => ?_) (fun hc => ?_) <;> simp only [cmpProp] at hc) | fail)
      refine x_keep [0, 1, 24] rfl ?_
      refine x_loop_inv (fun lm le w => ∃ (i : Nat), lm = 5 - i ∧ i ≤ 5 ∧ le = [(0, .pointer (some ⟨b, 0, none⟩)), (1, .int .i64 page), (24, .int .i64 i)] ∧ Sat S w (isSet b (fillM page i) :: G)) (5) ⟨0, rfl, by omega, rfl, h⟩ ?_
      clear h
      rintro lm le w ⟨i, rfl, hi0, rfl, h⟩ ihb
      by_cases h3 : i < 5
      · obtain ⟨c, r, hr, hok3, h⟩ := isSet_open h
        repeat' (first | refine stPs ?_ | (refine p_cmp rfl rfl rfl rfl (fun hc => ?_) (fun hc => ?_) <;> simp only [cmpProp] at hc) | fail)
        refine p_call rfl rfl (cell_Row_Store_spec (i : Int) page (by omega) (by omega) (h.pick (.there .here))) ?_
        rintro _ w ⟨rfl, h⟩
        rw [RowM.store, if_pos ⟨by omega, by rw [hr, hok3.1]; omega⟩, hr, Int.toNat_natCast, fillM_set page h3] at h
        repeat' (first | refine stPs ?_ | (refine p_cmp rfl rfl rfl rfl (fun hc => ?_) (fun hc => ?_) <;> simp only [cmpProp] at hc) | fail)
        exact x_keep [0, 1, 24] rfl (ihb _ _ _ (by omega) ⟨i + 1, rfl, by omega, rfl, isSet_shut (h.pick (.there .here)) rfl (fillM_ok (by omega) h1 (by omega))⟩)
      · obtain rfl : i = 5 := by omega
        have e : beginM [0, 0, 0, 0, 0] page = (0, fillM page 5) := by rw [beginM, if_neg hp, if_neg (by simp)]; rfl
        repeat' (first | refine stPs ?_ | (refine p_cmp rfl rfl rfl rfl (fun hc => ?_) (fun hc => ?_) <;> simp only [cmpProp] at hc) | fail)
        exact x_ret' is_marks_Set_Begin rfl ⟨by rw [e]; rfl, by rw [e]; exact h⟩
end
end Go.Proofs.YtflbfdmmfoigaaaGreat
