/- Layer 12 (pages): the document's pages: none is in; one is closed; none may be opened. -/
import Derived.Test.YtfchenbihepjaaaHxS
import Derived.Test.YtfchenbihepjaaaR12b
namespace Go.Proofs.Ytfchenbihepjaaa
open Go Go.HX
attribute [local irreducible] Ret XRun XOps XDr XOne Does Gives
set_option maxRecDepth 4000
set_option maxHeartbeats 1000000
theorem stC0_R12c {goal next : Prop} (k : next) (hs : Hid next → goal := by (intro k; (first | (refine gC F.ref02_Size ?_; refine p_call rfl rfl (ref02_Size_spec _ h) ?_) | (refine gC F.ref12_Buffer_At ?_; refine p_call rfl rfl (ref12_Buffer_At_spec _ ?_ (h.rf2)) ?_; iterate 1 (first | assumption | omega | (simp only []; omega) | decide)) | (refine gS ?_; (first | refine p_do rfl (d_stwL rfl rfl rfl rfl rfl (h.pick (by repeat first | exact .here | apply Has.there)) (by first | (dsimp only [Value.cells]; done) | exact rfl)) ?_ | refine p_do rfl (d_stL rfl rfl rfl (h.pick (by repeat first | exact .here | apply Has.there)) (by first | exact of_decide_eq_true rfl | simp) (by first | (dsimp only [List.set]; done) | exact rfl)) ?_)) | fail); exact k.out)) : goal := hs ⟨k⟩
theorem stC1_R12c {goal next : Prop} (k : next) (hs : Hid next → goal := by (intro k; (first | (refine gBx ?_; refine p_do rfl (d_boxL rfl h (by first | (dsimp only [Value.cells]; done) | exact rfl)) ?_) | (refine gN ?_; refine p_do rfl (d_newL h (by first | (dsimp only [Value.cells]; done) | exact rfl)) ?_) | fail); exact k.out)) : goal := hs ⟨k⟩
theorem rows_take {α : Type} {enc : α → List Value} {n : Nat} (hn : ∀ x, (enc x).length = n) (l : List α) (i : Nat) : (rows enc l).take (i * n) = rows enc (l.take i) := by
  by_cases hi : i ≤ l.length
  · have e : rows enc l = rows enc (l.take i) ++ rows enc (l.drop i) := by rw [← rows_append, List.take_append_drop]
    have hl : (rows enc (l.take i)).length = i * n := by rw [rows_length hn, List.length_take]; congr 1; omega
    rw [e, ← hl, List.take_left]
  · rw [List.take_of_length_le (by rw [rows_length hn]; exact Nat.mul_le_mul_right n (by omega)), List.take_of_length_le (by omega)]
theorem rows_drop {α : Type} {enc : α → List Value} {n : Nat} (hn : ∀ x, (enc x).length = n) (l : List α) (i : Nat) : (rows enc l).drop (i * n) = rows enc (l.drop i) := by
  by_cases hi : i ≤ l.length
  · have e : rows enc l = rows enc (l.take i) ++ rows enc (l.drop i) := by rw [← rows_append, List.take_append_drop]
    have hl : (rows enc (l.take i)).length = i * n := by rw [rows_length hn, List.length_take]; congr 1; omega
    rw [e, ← hl, List.drop_left]
  · rw [List.drop_of_length_le (by rw [rows_length hn]; exact Nat.mul_le_mul_right n (by omega)), List.drop_of_length_le (by omega)]
    rfl
section
variable {S : SP} {w : World} {G : List HProp}

theorem ref12_New_spec (bits fr : Int) (h : Sat S w G) :
    Ret Try.prog F.ref12_New #[.int .i64 bits, .int .i64 fr] w (fun v w' => (¬ ((5 ≤ bits ∧ bits ≤ 9) ∧ 2 ≤ fr ∧ fr ≤ 8) ∧ v = .tuple #[.pointer none, .int .i64 1] ∧ Sat S w' G) ∨ (((5 ≤ bits ∧ bits ≤ 9) ∧ 2 ≤ fr ∧ fr ≤ 8) ∧ ∃ mb lv, v = .tuple #[.pointer (some ⟨mb, 0, none⟩), .int .i64 0] ∧ Sat S w' (pt mb (.cells #[.int .i64 bits, .int .i64 fr, lv] T.haycroftref12_Buffer (0, 0)) :: ownS T.haycroftref12_One 2 lv (rows oneC ([])) :: G))) := by
  have hs := size_cases bits
  refine ret_of is_ref12_New rfl ?_
  by_cases hcc : (5 ≤ bits ∧ bits ≤ 9) ∧ 2 ≤ fr ∧ fr ≤ 8
  · obtain ⟨h1, h2, h3⟩ := hcc
    repeat' (first | refine stPs ?_ | (refine stC0_R12c ?_; rintro _ w ⟨rfl, h⟩) | (refine stC1_R12c ?_; rintro _ w ⟨bx, rfl, h⟩) | (refine p_cmp rfl rfl rfl rfl (fun hc => ?_) (fun hc => ?_) <;> simp only [cmpProp] at hc) | fail)
    have h := ownS_none (E := T.haycroftref12_One) (n := 2) h
    exact x_ret' is_ref12_New rfl (.inr ⟨⟨h1, h2, h3⟩, bx, .slice none 0 0, rfl, h.pm2⟩)
  · repeat' (first | refine stPs ?_ | (refine stC0_R12c ?_; rintro _ w ⟨rfl, h⟩) | (refine stC1_R12c ?_; rintro _ w ⟨bx, rfl, h⟩) | (refine p_cmp rfl rfl rfl rfl (fun hc => ?_) (fun hc => ?_) <;> simp only [cmpProp] at hc) | fail)
    all_goals first | (exfalso; omega) | exact x_ret' is_ref12_New rfl (.inl ⟨hcc, rfl, h⟩)

theorem ref12_Buffer_Open_arg {mb : Nat} (p : Int) (p0 : p < 0) (h : Sat S w G) :
    Ret Try.prog F.ref12_Buffer_Open #[.pointer (some ⟨mb, 0, none⟩), .int .i64 p] w (fun v w' => v = .int .i64 1 ∧ Sat S w' G) := by
  refine ret_of is_ref12_Buffer_Open rfl ?_
  repeat' (first | refine stPs ?_ | (refine stC0_R12c ?_; rintro _ w ⟨rfl, h⟩) | (refine stC1_R12c ?_; rintro _ w ⟨bx, rfl, h⟩) | (refine p_cmp rfl rfl rfl rfl (fun hc => ?_) (fun hc => ?_) <;> simp only [cmpProp] at hc) | (refine r_cmp rfl rfl rfl rfl rfl (fun hc => ?_) (fun hc => ?_) <;> simp only [cmpProp] at hc) | (refine x_drawn rfl ?_; have h := h.drew) | refine x_drawn rfl ?_ | fail)
  exact x_ret' is_ref12_Buffer_Open rfl ⟨rfl, h⟩

theorem ref12_Buffer_Open_there {mb : Nat} {bits fr : Int} {lv : Value} {os : List OneM} (p : Int) (p0 : 0 ≤ p) (hl : os.length ≤ 8) (ha : 0 ≤ atZ os p) (h : Sat S w (pt mb (.cells #[.int .i64 bits, .int .i64 fr, lv] T.haycroftref12_Buffer (0, 0)) :: ownS T.haycroftref12_One 2 lv (rows oneC (os)) :: G)) :
    Ret Try.prog F.ref12_Buffer_Open #[.pointer (some ⟨mb, 0, none⟩), .int .i64 p] w (fun v w' => v = .int .i64 8 ∧ Sat S w' (pt mb (.cells #[.int .i64 bits, .int .i64 fr, lv] T.haycroftref12_Buffer (0, 0)) :: ownS T.haycroftref12_One 2 lv (rows oneC (os)) :: G)) := by
  refine ret_of is_ref12_Buffer_Open rfl ?_
  repeat' (first | (refine gC F.ref12_Buffer_At ?_; refine p_call rfl rfl (ref12_Buffer_At_spec p (by omega) (h.rf2)) ?_; rintro _ w ⟨rfl, h⟩) | refine stP ?_ | (refine stC0_R12c ?_; rintro _ w ⟨rfl, h⟩) | (refine stC1_R12c ?_; rintro _ w ⟨bx, rfl, h⟩) | (refine p_cmp rfl rfl rfl rfl (fun hc => ?_) (fun hc => ?_) <;> simp only [cmpProp] at hc) | (refine r_cmp rfl rfl rfl rfl rfl (fun hc => ?_) (fun hc => ?_) <;> simp only [cmpProp] at hc) | (refine x_drawn rfl ?_; have h := h.drew) | refine x_drawn rfl ?_ | fail)
  exact x_ret' is_ref12_Buffer_Open rfl ⟨rfl, h.pm2⟩

set_option maxHeartbeats 8000000 in
theorem ref12_Buffer_Open_busy {mb k : Nat} {bits fr : Int} {lv : Value} {os : List OneM} {y : OneM} (p : Int) (p0 : 0 ≤ p) (hf : 2 ≤ fr ∧ fr ≤ 8) (hl : os.length ≤ 8) (ha : atZ os p < 0) (ho : ∀ o ∈ os, 0 ≤ o.page) (hk : os[k]? = some y) (hb : y.page % fr = p % fr) (h : Sat S w (pt mb (.cells #[.int .i64 bits, .int .i64 fr, lv] T.haycroftref12_Buffer (0, 0)) :: ownS T.haycroftref12_One 2 lv (rows oneC (os)) :: G)) :
    Ret Try.prog F.ref12_Buffer_Open #[.pointer (some ⟨mb, 0, none⟩), .int .i64 p] w (fun v w' => v = .int .i64 10 ∧ Sat S w' (pt mb (.cells #[.int .i64 bits, .int .i64 fr, lv] T.haycroftref12_Buffer (0, 0)) :: ownS T.haycroftref12_One 2 lv (rows oneC (os)) :: G)) := by
  obtain ⟨va, vl, vc, rfl, hvl, _⟩ := ownS_slice h (.there .here)
  rw [rows_length oneC_len] at hvl
  have hkl : k < os.length := (List.getElem?_eq_some_iff.1 hk).1
  refine ret_of is_ref12_Buffer_Open rfl ?_
  repeat' (first | (refine gC F.ref12_Buffer_At ?_; refine p_call rfl rfl (ref12_Buffer_At_spec p (by omega) (h.rf2)) ?_; rintro _ w ⟨rfl, h⟩) | refine stP ?_ | (refine stC0_R12c ?_; rintro _ w ⟨rfl, h⟩) | (refine stC1_R12c ?_; rintro _ w ⟨bx, rfl, h⟩) | (refine p_cmp rfl rfl rfl rfl (fun hc => ?_) (fun hc => ?_) <;> simp only [cmpProp] at hc) | (refine r_cmp rfl rfl rfl rfl rfl (fun hc => ?_) (fun hc => ?_) <;> simp only [cmpProp] at hc) | (refine x_drawn rfl ?_; have h := h.drew) | refine x_drawn rfl ?_ | fail)
  refine x_keep [0, 1, 5] rfl ?_
  refine x_loop_inv (fun lm le w => ∃ (i : Nat), lm = vl - i ∧ i ≤ k ∧ le = [(0, .pointer (some ⟨mb, 0, none⟩)), (1, .int .i64 p), (5, .int .i64 i)] ∧ Sat S w (pt mb (.cells #[.int .i64 bits, .int .i64 fr, .slice va vl vc] T.haycroftref12_Buffer (0, 0)) :: ownS T.haycroftref12_One 2 (.slice va vl vc) (rows oneC os) :: G)) (vl) ⟨0, rfl, by omega, rfl, h.pm2⟩ ?_
  clear h
  rintro lm le w ⟨i, rfl, hi0, rfl, h⟩ ih
  obtain ⟨o, hoi⟩ := has_elem (show i < os.length by omega)
  obtain ⟨vo, rfl⟩ := ownS_addr (E := T.haycroftref12_One) h (.there .here) (by omega)
  have ho1 := ho o (List.mem_of_getElem? hoi)
  by_cases he : o.page % fr = p % fr
  · repeat' (first | (refine gLR ?_; refine r_own rfl rfl rfl h (fun w h => g_ldF (i := i) (f := 0) oneC_len rfl (ownS_rd h (by repeat first | exact .here | apply Has.there)) hoi rfl (by omega)) ?_) | (refine gR .rem ?_; refine r_pure rfl rfl rfl (fun _ => g_rem_i rfl rfl (by omega) (by omega)) ?_) | refine stP ?_ | (refine stC0_R12c ?_; rintro _ w ⟨rfl, h⟩) | (refine stC1_R12c ?_; rintro _ w ⟨bx, rfl, h⟩) | (refine p_cmp rfl rfl rfl rfl (fun hc => ?_) (fun hc => ?_) <;> simp only [cmpProp] at hc) | (refine r_cmp rfl rfl rfl rfl rfl (fun hc => ?_) (fun hc => ?_) <;> simp only [cmpProp] at hc) | (refine x_drawn rfl ?_; have h := h.drew) | refine x_drawn rfl ?_ | fail)
    exact x_ret' is_ref12_Buffer_Open rfl ⟨rfl, h.pm2⟩
  · have hik : i ≠ k := fun e => by subst e; rw [hk] at hoi; cases hoi; exact he hb
    repeat' (first | (refine gLR ?_; refine r_own rfl rfl rfl h (fun w h => g_ldF (i := i) (f := 0) oneC_len rfl (ownS_rd h (by repeat first | exact .here | apply Has.there)) hoi rfl (by omega)) ?_) | (refine gR .rem ?_; refine r_pure rfl rfl rfl (fun _ => g_rem_i rfl rfl (by omega) (by omega)) ?_) | refine stP ?_ | (refine stC0_R12c ?_; rintro _ w ⟨rfl, h⟩) | (refine stC1_R12c ?_; rintro _ w ⟨bx, rfl, h⟩) | (refine p_cmp rfl rfl rfl rfl (fun hc => ?_) (fun hc => ?_) <;> simp only [cmpProp] at hc) | (refine r_cmp rfl rfl rfl rfl rfl (fun hc => ?_) (fun hc => ?_) <;> simp only [cmpProp] at hc) | (refine x_drawn rfl ?_; have h := h.drew) | refine x_drawn rfl ?_ | fail)
    exact x_keep [0, 1, 5] rfl (ih _ _ _ (by omega) ⟨i + 1, rfl, by omega, rfl, h.pm2⟩)

theorem ref12_Buffer_Close_none {mb : Nat} {bits fr : Int} {lv : Value} {os : List OneM} (p : Int) (hl : os.length ≤ 8) (ha : atZ os p < 0) (h : Sat S w (pt mb (.cells #[.int .i64 bits, .int .i64 fr, lv] T.haycroftref12_Buffer (0, 0)) :: ownS T.haycroftref12_One 2 lv (rows oneC (os)) :: G)) :
    Ret Try.prog F.ref12_Buffer_Close #[.pointer (some ⟨mb, 0, none⟩), .int .i64 p] w (fun v w' => v = .int .i64 7 ∧ Sat S w' (pt mb (.cells #[.int .i64 bits, .int .i64 fr, lv] T.haycroftref12_Buffer (0, 0)) :: ownS T.haycroftref12_One 2 lv (rows oneC (os)) :: G)) := by
  refine ret_of is_ref12_Buffer_Close rfl ?_
  repeat' (first | (refine gC F.ref12_Buffer_At ?_; refine p_call rfl rfl (ref12_Buffer_At_spec p (by omega) (h.rf2)) ?_; rintro _ w ⟨rfl, h⟩) | refine stP ?_ | (refine stC0_R12c ?_; rintro _ w ⟨rfl, h⟩) | (refine p_cmp rfl rfl rfl rfl (fun hc => ?_) (fun hc => ?_) <;> simp only [cmpProp] at hc) | fail)
  exact x_ret' is_ref12_Buffer_Close rfl ⟨rfl, h.pm2⟩

set_option maxHeartbeats 8000000 in
theorem ref12_Buffer_Close_spec {mb k : Nat} {bits fr : Int} {lv : Value} {os : List OneM} (p : Int) (hl : os.length ≤ 8) (ha : atN os p = some k) (h : Sat S w (pt mb (.cells #[.int .i64 bits, .int .i64 fr, lv] T.haycroftref12_Buffer (0, 0)) :: ownS T.haycroftref12_One 2 lv (rows oneC (os)) :: G)) :
    Ret Try.prog F.ref12_Buffer_Close #[.pointer (some ⟨mb, 0, none⟩), .int .i64 p] w (fun v w' => v = .int .i64 0 ∧ ∃ lv, Sat S w' (pt mb (.cells #[.int .i64 bits, .int .i64 fr, lv] T.haycroftref12_Buffer (0, 0)) :: ownS T.haycroftref12_One 2 lv (rows oneC (os.eraseIdx k)) :: G)) := by
  obtain ⟨va, vl, vc, rfl, hvl, hvc⟩ := ownS_slice h (.there .here)
  rw [rows_length oneC_len] at hvl
  obtain ⟨o, hok, _⟩ := at_get ha
  have hkl : k < os.length := (List.getElem?_eq_some_iff.1 hok).1
  obtain ⟨vo, rfl⟩ := ownS_addr (E := T.haycroftref12_One) h (.there .here) (by omega)
  have haz : atZ os p = k := by unfold atZ; rw [ha]
  have ee : os.eraseIdx k = os.take k ++ os.drop (k + 1) := List.eraseIdx_eq_take_drop_succ ..
  refine ret_of is_ref12_Buffer_Close rfl ?_
  repeat' (first | (refine gC F.ref12_Buffer_At ?_; refine p_call rfl rfl (ref12_Buffer_At_spec p (by omega) (h.rf2)) ?_; rw [haz]; rintro _ w ⟨rfl, h⟩) | refine stP ?_ | (refine stC0_R12c ?_; rintro _ w ⟨rfl, h⟩) | (refine p_cmp rfl rfl rfl rfl (fun hc => ?_) (fun hc => ?_) <;> simp only [cmpProp] at hc) | fail)
  refine p_lit [] rfl rfl rfl rfl rfl rfl h (fun v w h => ?_)
  obtain ⟨v1, v2, v3, rfl, _, _⟩ := ownS_slice h .here
  repeat' (first | refine stPs ?_ | (refine stC0_R12c ?_; rintro _ w ⟨rfl, h⟩) | (refine p_cmp rfl rfl rfl rfl (fun hc => ?_) (fun hc => ?_) <;> simp only [cmpProp] at hc) | fail)
  rw [haz]
  refine p_val rfl (g_slc (l' := 0) (h' := k) rfl rfl rfl rfl rfl (by omega) (by omega)) ?_
  have r1 := (ownS_rd h (.there (.there .here))).sub (l' := 0) (h' := k) (by omega) (by omega)
  rw [rows_take oneC_len, Nat.zero_mul, List.drop_zero] at r1
  refine p_do rfl (d_appR rfl rfl rfl (by decide) (h.pick .here) r1 (rows_cells oneC_one _) (by rw [rows_length oneC_len, List.length_take]; simp; omega) (by rw [rows_length oneC_len, List.length_take]; simp; omega)) ?_
  intro v4 w h
  obtain ⟨w1, w2, w3, rfl, _, _⟩ := ownS_slice h .here
  rw [List.nil_append] at h
  repeat' (first | refine stPs ?_ | (refine stC0_R12c ?_; rintro _ w ⟨rfl, h⟩) | (refine p_cmp rfl rfl rfl rfl (fun hc => ?_) (fun hc => ?_) <;> simp only [cmpProp] at hc) | fail)
  refine p_val rfl (g_slc (l' := k + 1) (h' := vl) rfl rfl rfl rfl rfl (by omega) (by omega)) ?_
  have r2 := (ownS_rd h (.there (.there .here))).sub (l' := k + 1) (h' := vl) (by omega) (by omega)
  rw [rows_take oneC_len, rows_drop oneC_len, List.take_of_length_le (by omega)] at r2
  refine p_do rfl (d_appR rfl rfl rfl (by decide) (h.pick .here) r2 (rows_cells oneC_one _) (by rw [rows_length oneC_len, rows_length oneC_len, List.length_take, List.length_drop]; omega) (by rw [rows_length oneC_len, rows_length oneC_len, List.length_take, List.length_drop]; omega)) ?_
  intro v5 w h
  obtain ⟨x1, x2, x3, rfl, _, _⟩ := ownS_slice h .here
  rw [← rows_append, ← ee] at h
  repeat' (first | refine stPs ?_ | (refine stC0_R12c ?_; rintro _ w ⟨rfl, h⟩) | (refine p_cmp rfl rfl rfl rfl (fun hc => ?_) (fun hc => ?_) <;> simp only [cmpProp] at hc) | fail)
  exact x_ret' is_ref12_Buffer_Close rfl ⟨rfl, _, h.pm2⟩
end
end Go.Proofs.Ytfchenbihepjaaa
