/- The reference of layer 29 (meter): what each function computes. -/
import Derived.Test.YtojopmkekimpjaaHxS
import Derived.Test.YtojopmkekimpjaaP29
namespace Go.Proofs.Ytojopmkekimpjaa
open Go Go.HX
attribute [local irreducible] Ret XRun XOps XDr XOne Does Gives
set_option maxRecDepth 4000
set_option maxHeartbeats 1000000
theorem stC0_R29 {goal next : Prop} (k : next) (hs : Hid next → goal := by (intro k; (first | (refine gN ?_; refine p_do rfl (d_newL h (by first | (dsimp only [Value.cells]; done) | exact rfl)) ?_) | fail); exact k.out)) : goal := hs ⟨k⟩
theorem stC1_R29 {goal next : Prop} (k : next) (hs : Hid next → goal := by (intro k; (first | (refine gS ?_; (first | refine p_do rfl (d_stwL rfl rfl rfl rfl rfl (h.pick (by repeat first | exact .here | apply Has.there)) (by first | (dsimp only [Value.cells]; done) | exact rfl)) ?_ | refine p_do rfl (d_stL rfl rfl rfl (h.pick (by repeat first | exact .here | apply Has.there)) (by first | exact of_decide_eq_true rfl | simp) (by first | (dsimp only [List.set]; done) | exact rfl)) ?_)) | fail); exact k.out)) : goal := hs ⟨k⟩
theorem all_next {p : EvM → Prop} {l : List EvM} {i : Nat} {e : EvM} (h : ∀ x ∈ l.take i, p x) (he : l[i]? = some e) (hp : p e) : ∀ x ∈ l.take (i + 1), p x := fun x hx => by
  rw [take_next he] at hx
  rcases List.mem_append.1 hx with hx | hx
  · exact h x hx
  · rw [List.mem_singleton.1 hx]; exact hp
section
variable {S : SP} {w : World} {G : List HProp}

theorem ref20_Right_spec {v : Value} (l : List EvM) (hl : l.length ≤ 1000000) (hr : ∀ w, Sat S w G → RdS w 8 v (rows evC l)) (h : Sat S w G) :
    Ret Try.prog F.ref20_Right #[v] w (fun u w' => BoolIs u (∀ e ∈ l, e.right) ∧ Sat S w' G) := by
  obtain ⟨a, len, cap, rfl, _⟩ := hr w h
  have hlen := (hr w h).rlen evC_len (by decide)
  refine ret_of is_ref20_Right rfl ?_
  repeat' (first | refine stPs ?_ | (refine stC0_R29 ?_; rintro _ w ⟨bx, rfl, h⟩) | (refine stC1_R29 ?_; rintro _ w ⟨rfl, h⟩) | (refine p_cmp rfl rfl rfl rfl (fun hc => ?_) (fun hc => ?_) <;> simp only [cmpProp] at hc) | fail)
  refine x_keep [0, 3] rfl ?_
  refine x_loop_inv (fun lm le w => ∃ (i : Nat), lm = len - i ∧ i ≤ len ∧ (∀ x ∈ l.take i, x.right) ∧ le = [(0, .slice a len cap), (3, .int .i64 i)] ∧ Sat S w (G)) (len) ⟨0, rfl, by omega, fun x hx => by simp at hx, rfl, h⟩ ?_
  clear h
  rintro lm le w ⟨i, rfl, hi0, hi1, rfl, h⟩ ih
  by_cases hi : i < len
  · obtain ⟨e, he⟩ := has_elem (show i < l.length by omega)
    obtain ⟨pa, po, rfl⟩ := (hr w h).addr (by omega)
    by_cases hs : e.right
    · have hs2 := hs
      unfold EvM.right at hs
      repeat' (first | (refine gL ?_; refine p_val rfl (g_ldE (i := i) evC_len rfl (hr _ h) he (by omega)) ?_) | refine stP ?_ | (refine stC0_R29 ?_; rintro _ w ⟨bx, rfl, h⟩) | (refine stC1_R29 ?_; rintro _ w ⟨rfl, h⟩) | (refine p_cmp rfl rfl rfl rfl (fun hc => ?_) (fun hc => ?_) <;> simp only [cmpProp] at hc) | fail)
      all_goals exact x_keep [0, 3] rfl (ih _ _ _ (by omega) ⟨i + 1, rfl, by omega, all_next hi1 he hs2, rfl, h.drop⟩)
    · have hs2 : ¬ ∀ e ∈ l, e.right := fun hx => hs (hx e (List.mem_of_getElem? he))
      unfold EvM.right at hs
      repeat' (first | (refine gL ?_; refine p_val rfl (g_ldE (i := i) evC_len rfl (hr _ h) he (by omega)) ?_) | refine stP ?_ | (refine stC0_R29 ?_; rintro _ w ⟨bx, rfl, h⟩) | (refine stC1_R29 ?_; rintro _ w ⟨rfl, h⟩) | (refine p_cmp rfl rfl rfl rfl (fun hc => ?_) (fun hc => ?_) <;> simp only [cmpProp] at hc) | fail)
      all_goals exact x_ret' is_ref20_Right rfl ⟨.f hs2, h.drop⟩
  · repeat' (first | refine stPs ?_ | (refine stC0_R29 ?_; rintro _ w ⟨bx, rfl, h⟩) | (refine stC1_R29 ?_; rintro _ w ⟨rfl, h⟩) | (refine p_cmp rfl rfl rfl rfl (fun hc => ?_) (fun hc => ?_) <;> simp only [cmpProp] at hc) | fail)
    rw [List.take_of_length_le (by omega)] at hi1
    exact x_ret' is_ref20_Right rfl ⟨.t hi1, h⟩

theorem ref29_May_spec {v : Value} (l : List EvM) (hl : l.length ≤ 1000000) (hr : ∀ w, Sat S w G → RdS w 8 v (rows evC l)) (h : Sat S w G) :
    Ret Try.prog F.ref29_May #[v] w (fun u w' => BoolIs u (mayE l) ∧ Sat S w' G) := by
  obtain ⟨a, len, cap, rfl, _⟩ := hr w h
  have hlen := (hr w h).rlen evC_len (by decide)
  refine ret_of is_ref29_May rfl ?_
  repeat' (first | refine stPs ?_ | (refine p_cmp rfl rfl rfl rfl (fun hc => ?_) (fun hc => ?_) <;> simp only [cmpProp] at hc) | fail)
  refine x_keep [0, 3] rfl ?_
  refine x_loop_inv (fun lm le w => ∃ (i : Nat), lm = len - i ∧ i ≤ len ∧ (∀ x ∈ l.take i, x.soon) ∧ le = [(0, .slice a len cap), (3, .int .i64 i)] ∧ Sat S w (G)) (len) ⟨0, rfl, by omega, fun x hx => by simp at hx, rfl, h⟩ ?_
  clear h
  rintro lm le w ⟨i, rfl, hi0, hi1, rfl, h⟩ ih
  by_cases hi : i < len
  · obtain ⟨e, he⟩ := has_elem (show i < l.length by omega)
    obtain ⟨pa, po, rfl⟩ := (hr w h).addr (by omega)
    by_cases hs : e.soon
    · have hs2 := hs
      unfold EvM.soon at hs
      repeat' (first | (refine gL ?_; first | (refine p_val rfl (g_ldF (i := i) (f := 6) (u := .int .i64 e.from_) evC_len rfl (hr _ h) he rfl (by omega)) ?_) | (refine p_val rfl (g_ldF (i := i) (f := 7) (u := .int .i64 e.to) evC_len rfl (hr _ h) he rfl (by omega)) ?_)) | refine stP ?_ | (refine p_cmp rfl rfl rfl rfl (fun hc => ?_) (fun hc => ?_) <;> simp only [cmpProp] at hc) | fail)
      all_goals exact x_keep [0, 3] rfl (ih _ _ _ (by omega) ⟨i + 1, rfl, by omega, all_next hi1 he hs2, rfl, h⟩)
    · have hs2 : ¬ mayE l := fun hx => hs (hx.2 e (List.mem_of_getElem? he))
      unfold EvM.soon at hs
      repeat' (first | (refine gL ?_; first | (refine p_val rfl (g_ldF (i := i) (f := 6) (u := .int .i64 e.from_) evC_len rfl (hr _ h) he rfl (by omega)) ?_) | (refine p_val rfl (g_ldF (i := i) (f := 7) (u := .int .i64 e.to) evC_len rfl (hr _ h) he rfl (by omega)) ?_)) | refine stP ?_ | (refine p_cmp rfl rfl rfl rfl (fun hc => ?_) (fun hc => ?_) <;> simp only [cmpProp] at hc) | fail)
      all_goals exact x_ret' is_ref29_May rfl ⟨.f hs2, h⟩
  · rw [List.take_of_length_le (by omega)] at hi1
    repeat' (first | (refine gC F.ref20_Right ?_; refine p_call rfl rfl (ref20_Right_spec l hl hr h) ?_; rintro _ w ⟨(⟨rfl, hb⟩ | ⟨rfl, hb⟩), h⟩) | refine stP ?_ | (refine p_cmp rfl rfl rfl rfl (fun hc => ?_) (fun hc => ?_) <;> simp only [cmpProp] at hc) | fail)
    · exact x_ret' is_ref29_May rfl ⟨.t ⟨hb, hi1⟩, h⟩
    · exact x_ret' is_ref29_May rfl ⟨.f (fun hx => hb hx.1), h⟩

theorem openN_next {l : List EvM} {t : Int} {j : Nat} {e : EvM} (he : l[j]? = some e) : openN (l.take (j + 1)) t = openN (l.take j) t + if e.open_ t then 1 else 0 := by
  rw [take_next he]
  unfold openN
  rw [List.countP_append]
  by_cases h : e.open_ t
  · rw [if_pos h, List.countP_cons, List.countP_nil, if_pos (by simpa using h)]
  · rw [if_neg h, List.countP_cons, List.countP_nil, if_neg (by simpa using h)]
theorem openN_le (l : List EvM) (t : Int) : openN l t ≤ l.length := List.countP_le_length
theorem wideN_next {l m : List EvM} {i : Nat} {e : EvM} (he : m[i]? = some e) : wideN l (m.take (i + 1)) = max (wideN l (m.take i)) (openN l e.from_) := by
  rw [take_next he, wideN_app]
  show max _ (max (openN l e.from_) 0) = _
  omega

set_option maxHeartbeats 4000000 in
theorem ref29_Wide_spec {v : Value} (l : List EvM) (hl : l.length ≤ 1000000) (hr : ∀ w, Sat S w G → RdS w 8 v (rows evC l)) (h : Sat S w G) :
    Ret Try.prog F.ref29_Wide #[v] w (fun u w' => u = .int .i64 (wideN l l) ∧ Sat S w' G) := by
  obtain ⟨a, len, cap, rfl, _⟩ := hr w h
  have hlen := (hr w h).rlen evC_len (by decide)
  refine ret_of is_ref29_Wide rfl ?_
  repeat' (first | refine stPs ?_ | (refine p_cmp rfl rfl rfl rfl (fun hc => ?_) (fun hc => ?_) <;> simp only [cmpProp] at hc) | (refine r_cmp rfl rfl rfl rfl rfl (fun hc => ?_) (fun hc => ?_) <;> simp only [cmpProp] at hc) | (refine x_drawn rfl ?_; have h := h.drew) | refine x_drawn rfl ?_ | fail)
  refine x_keep [0, 3, 4] rfl ?_
  refine x_loop_inv (fun lm le w => ∃ (i : Nat), lm = len - i ∧ i ≤ len ∧ le = [(0, .slice a len cap), (3, .int .i64 (wideN l (l.take i) : Nat)), (4, .int .i64 i)] ∧ Sat S w (G)) (len) ⟨0, rfl, by omega, rfl, h⟩ ?_
  clear h
  rintro lm le w ⟨i, rfl, hi0, rfl, h⟩ ih
  by_cases hi : i < len
  · obtain ⟨e, he⟩ := has_elem (show i < l.length by omega)
    obtain ⟨pa, po, rfl⟩ := (hr w h).addr (by omega)
    repeat' (first | refine stPs ?_ | (refine p_cmp rfl rfl rfl rfl (fun hc => ?_) (fun hc => ?_) <;> simp only [cmpProp] at hc) | (refine r_cmp rfl rfl rfl rfl rfl (fun hc => ?_) (fun hc => ?_) <;> simp only [cmpProp] at hc) | (refine x_drawn rfl ?_; have h := h.drew) | refine x_drawn rfl ?_ | fail)
    refine x_keep [0, 3, 4, 5, 6] rfl ?_
    refine x_loop_inv (fun lm le w => ∃ (j : Nat), lm = len - j ∧ j ≤ len ∧ le = [(0, .slice (some ⟨pa, po, none⟩) len cap), (3, .int .i64 (wideN l (l.take i) : Nat)), (4, .int .i64 i), (5, .int .i64 (openN (l.take j) e.from_ : Nat)), (6, .int .i64 j)] ∧ Sat S w (G)) (len) ⟨0, rfl, by omega, rfl, h⟩ ?_
    clear h
    rintro lm le w ⟨j, rfl, hi0, rfl, h⟩ ih2
    by_cases hj : j < len
    · obtain ⟨y, hy⟩ := has_elem (show j < l.length by omega)
      have hn := openN_next (t := e.from_) hy
      have hle := openN_le (l.take j) e.from_
      rw [List.length_take] at hle
      by_cases ho : y.open_ e.from_
      · rw [if_pos ho] at hn
        unfold EvM.open_ at ho
        repeat' (first | (refine gLR ?_; first | (refine r_own rfl rfl rfl h (fun w h => g_ldF (i := j) (f := 6) (u := .int .i64 y.from_) evC_len rfl (hr _ h) hy rfl (by omega)) ?_) | (refine r_own rfl rfl rfl h (fun w h => g_ldF (i := j) (f := 7) (u := .int .i64 y.to) evC_len rfl (hr _ h) hy rfl (by omega)) ?_) | (refine r_own rfl rfl rfl h (fun w h => g_ldF (i := i) (f := 6) (u := .int .i64 e.from_) evC_len rfl (hr _ h) he rfl (by omega)) ?_)) | refine stP ?_ | (refine p_cmp rfl rfl rfl rfl (fun hc => ?_) (fun hc => ?_) <;> simp only [cmpProp] at hc) | (refine r_cmp rfl rfl rfl rfl rfl (fun hc => ?_) (fun hc => ?_) <;> simp only [cmpProp] at hc) | (refine x_drawn rfl ?_; have h := h.drew) | refine x_drawn rfl ?_ | fail)
        all_goals exact x_keep [0, 3, 4, 5, 6] rfl (ih2 _ _ _ (by omega) ⟨j + 1, rfl, by omega, by rw [hn]; rfl, h⟩)
      · rw [if_neg ho] at hn
        unfold EvM.open_ at ho
        repeat' (first | (refine gLR ?_; first | (refine r_own rfl rfl rfl h (fun w h => g_ldF (i := j) (f := 6) (u := .int .i64 y.from_) evC_len rfl (hr _ h) hy rfl (by omega)) ?_) | (refine r_own rfl rfl rfl h (fun w h => g_ldF (i := j) (f := 7) (u := .int .i64 y.to) evC_len rfl (hr _ h) hy rfl (by omega)) ?_) | (refine r_own rfl rfl rfl h (fun w h => g_ldF (i := i) (f := 6) (u := .int .i64 e.from_) evC_len rfl (hr _ h) he rfl (by omega)) ?_)) | refine stP ?_ | (refine p_cmp rfl rfl rfl rfl (fun hc => ?_) (fun hc => ?_) <;> simp only [cmpProp] at hc) | (refine r_cmp rfl rfl rfl rfl rfl (fun hc => ?_) (fun hc => ?_) <;> simp only [cmpProp] at hc) | (refine x_drawn rfl ?_; have h := h.drew) | refine x_drawn rfl ?_ | fail)
        all_goals exact x_keep [0, 3, 4, 5, 6] rfl (ih2 _ _ _ (by omega) ⟨j + 1, rfl, by omega, by rw [hn]; rfl, h⟩)
    · repeat' (first | refine stPs ?_ | (refine p_cmp rfl rfl rfl rfl (fun hc => ?_) (fun hc => ?_) <;> simp only [cmpProp] at hc) | (refine r_cmp rfl rfl rfl rfl rfl (fun hc => ?_) (fun hc => ?_) <;> simp only [cmpProp] at hc) | (refine x_drawn rfl ?_; have h := h.drew) | refine x_drawn rfl ?_ | fail)
      have ew : (max (wideN l (l.take i) : Int) (openN (l.take j) e.from_ : Int)) = (wideN l (l.take (i + 1)) : Nat) := by
        rw [wideN_next he, List.take_of_length_le (show l.length ≤ j by omega)]
        omega
      rw [ew]
      exact x_keep [0, 3, 4] rfl (ih _ _ _ (by omega) ⟨i + 1, rfl, by omega, rfl, h⟩)
  · repeat' (first | refine stPs ?_ | (refine p_cmp rfl rfl rfl rfl (fun hc => ?_) (fun hc => ?_) <;> simp only [cmpProp] at hc) | (refine r_cmp rfl rfl rfl rfl rfl (fun hc => ?_) (fun hc => ?_) <;> simp only [cmpProp] at hc) | (refine x_drawn rfl ?_; have h := h.drew) | refine x_drawn rfl ?_ | fail)
    rw [List.take_of_length_le (by omega)]
    exact x_ret' is_ref29_Wide rfl ⟨rfl, h⟩
end
end Go.Proofs.Ytojopmkekimpjaa
