/- The document's answers of layer 7 (drain). -/
import Derived.Test.YtjlpjhbmfakpjaaP07
namespace Go.Proofs.Ytjlpjhbmfakpjaa
open Go Go.HX
set_option maxRecDepth 4000
set_option maxHeartbeats 1000000
def boolC (b : Bool) : List Value := [.bool b]
theorem boolC_len (a : Bool) : (boolC a).length = 1 := rfl
theorem boolC_one (a : Bool) : ∀ u ∈ boolC a, u.oneCell' = true := by
  intro u hu
  simp only [boolC, List.mem_cons, List.not_mem_nil, or_false] at hu
  subst hu; rfl
/-- Actions, and which ones went. -/
def isRef7 (b : Nat) (l : List ActM) (g : List Bool) : HProp := hex fun v => hex fun u => sep (pt b (.cells #[v, u] T.haycroftref07_List (0, 0))) (sep (ownS T.api_Action 3 v (rows actC l)) (ownS T.bool 1 u (rows boolC g)))
def waitL : List ActM → List Bool → List ActM
  | a :: l, b :: g => if b = true then waitL l g else a :: waitL l g
  | _, _ => []
def goneL (s : Int) : List ActM → List Bool → List Bool
  | a :: l, b :: g => (b || decide (a.ep ≤ s)) :: goneL s l g
  | _, _ => []
theorem goneL_length (s : Int) : ∀ (l : List ActM) (g : List Bool), l.length = g.length → (goneL s l g).length = l.length
  | [], g, _ => by simp [goneL]
  | a :: l, [], h => by simp at h
  | a :: l, b :: g, h => by simp [goneL, goneL_length s l g (by simpa using h)]
theorem waitL_append : ∀ (l : List ActM) (g : List Bool), l.length = g.length → ∀ (a : ActM) (b : Bool), waitL (l ++ [a]) (g ++ [b]) = waitL l g ++ if b = true then [] else [a]
  | [], [], _, a, b => by cases b <;> simp [waitL]
  | [], c :: g, h, a, b => by simp at h
  | x :: l, [], h, a, b => by simp at h
  | x :: l, c :: g, h, a, b => by
    have ih := waitL_append l g (by simpa using h) a b
    cases c <;> simp [waitL, ih]
theorem waitL_le : ∀ (l : List ActM) (g : List Bool), (waitL l g).length ≤ l.length
  | [], g => by simp [waitL]
  | a :: l, [] => by simp [waitL]
  | a :: l, b :: g => by
    have := waitL_le l g
    cases b <;> simp [waitL] <;> omega
theorem wait_gone (s : Int) : ∀ (l : List ActM) (g : List Bool), waitL l (goneL s l g) = restL s (waitL l g)
  | [], g => by simp [waitL, restL]
  | a :: l, [] => by simp [waitL, goneL, restL]
  | a :: l, b :: g => by
    have ih := wait_gone s l g
    cases b
    · by_cases h : a.ep ≤ s
      · simp [waitL, goneL, h, ih, restL]
      · simp [waitL, goneL, h, ih, restL]
    · simp [waitL, goneL, ih]
theorem goneL_take (s : Int) : ∀ (l : List ActM) (g : List Bool) (i : Nat) (x : ActM) (c : Bool), l[i]? = some x → g[i]? = some c → goneL s (l.take (i + 1)) (g.take (i + 1)) = goneL s (l.take i) (g.take i) ++ [c || decide (x.ep ≤ s)]
  | [], g, i, x, c, h, _ => by simp at h
  | a :: l, [], i, x, c, _, h => by simp at h
  | a :: l, b :: g, 0, x, c, h1, h2 => by
    simp at h1 h2
    subst h1; subst h2
    simp [goneL]
  | a :: l, b :: g, i + 1, x, c, h1, h2 => by
    have ih := goneL_take s l g i x c (by simpa using h1) (by simpa using h2)
    rw [List.take_succ_cons, List.take_succ_cons, List.take_succ_cons, List.take_succ_cons, goneL, goneL, ih]
    rfl
section
variable {S : SP} {w : World} {G : List HProp}
theorem isRef7_open {b : Nat} {l : List ActM} {g : List Bool} (h : Sat S w (isRef7 b l g :: G)) : ∃ a cap c d, Sat S w (pt b (.cells #[.slice a l.length cap, .slice c g.length d] T.haycroftref07_List (0, 0)) :: ownS T.api_Action 3 (.slice a l.length cap) (rows actC l) :: ownS T.bool 1 (.slice c g.length d) (rows boolC g) :: G) := by
  unfold isRef7 at h
  rw [Sat_ex] at h
  obtain ⟨v, h⟩ := h
  rw [Sat_ex] at h
  obtain ⟨u, h⟩ := h
  rw [Sat_sep] at h
  have h := h.pick (.there .here)
  rw [Sat_sep] at h
  have h := h.pick (.there (.there .here))
  obtain ⟨a, len, cap, rfl, h1, _⟩ := ownS_slice h (.there .here)
  rw [rows_length actC_len] at h1
  obtain rfl : len = l.length := by omega
  obtain ⟨c, len, d, rfl, h1, _⟩ := ownS_slice h (.there (.there .here))
  rw [rows_length boolC_len] at h1
  obtain rfl : len = g.length := by omega
  exact ⟨a, cap, c, d, h⟩
theorem isRef7_shut {b : Nat} {l : List ActM} {g : List Bool} {v u : Value} {G1 G2 G3 : List HProp} (h : Sat S w G) (h1 : Has G (pt b (.cells #[v, u] T.haycroftref07_List (0, 0))) G1) (h2 : Has G1 (ownS T.api_Action 3 v (rows actC l)) G2) (h3 : Has G2 (ownS T.bool 1 u (rows boolC g)) G3) : Sat S w (isRef7 b l g :: G3) := by
  unfold isRef7
  rw [Sat_ex]
  refine ⟨v, ?_⟩
  rw [Sat_ex]
  refine ⟨u, Sat_sep.2 ?_⟩
  refine (h.pick h1).eq ?_
  show sep _ (sepL G1) = sep _ (sep (sep _ _) (sepL G3))
  rw [h2.eq, sep_assoc]
  show sep _ (sep _ (sepL G2)) = _
  rw [h3.eq]
  rfl

theorem ref07_List_Waiting_spec {b : Nat} {l : List ActM} {g : List Bool} (hl : l.length ≤ 1000000) (hg : g.length = l.length) (h : Sat S w (isRef7 b l g :: G)) :
    Ret Try.prog F.ref07_List_Waiting #[.pointer (some ⟨b, 0, none⟩)] w (fun v w' => Sat S w' (ownS T.api_Action 3 v (rows actC (waitL l g)) :: isRef7 b l g :: G)) := by
  refine ret_of is_ref07_List_Waiting rfl ?_
  obtain ⟨a, cap, c, d, h⟩ := isRef7_open h
  repeat' (first | (refine gO ?_; first | refine p_skip rfl ?_ | refine p_val rfl (gives_pure rfl) ?_ | (refine gB .add ?_; first | refine p_val rfl (g_add_i rfl rfl (by omega) (by omega)) ?_ | refine p_val rfl (g_add_u rfl rfl (by omega) (by omega)) ?_) | (refine gB _ ?_; first | refine p_cmp_t rfl rfl rfl rfl (by first | exact rfl | (simp only [cmpProp]; omega) | decide) ?_ | refine p_cmp_f rfl rfl rfl rfl (by first | exact rfl | (simp only [cmpProp]; omega) | decide) ?_ | (refine p_cmp rfl rfl rfl rfl (fun hc => ?_) (fun hc => ?_) <;> simp only [cmpProp] at hc)) | (refine gL ?_; first | refine p_val rfl (g_ld rfl (h.cell (by repeat first | exact .here | apply Has.there) (by exact rfl))) ?_ | refine p_val rfl (g_lda rfl rfl (h.at (by repeat first | exact .here | apply Has.there))) ?_) | refine p_val rfl (g_idx rfl rfl (by omega) (by omega)) ?_) | refine x_nil ?_ | (refine gX ?_; first | refine x_seq ?_ | refine x_ops ?_ | refine x_cond_t rfl ?_ | refine x_cond_f rfl ?_ | refine x_block ?_ | refine x_skip ?_ | refine x_exit rfl ?_) | refine x_blk ?_)
  refine p_lit [] rfl rfl rfl rfl rfl rfl h (fun v w h => ?_)
  repeat' (first | (refine gO ?_; first | refine p_skip rfl ?_ | refine p_val rfl (gives_pure rfl) ?_ | (refine gB .add ?_; first | refine p_val rfl (g_add_i rfl rfl (by omega) (by omega)) ?_ | refine p_val rfl (g_add_u rfl rfl (by omega) (by omega)) ?_) | (refine gB _ ?_; first | refine p_cmp_t rfl rfl rfl rfl (by first | exact rfl | (simp only [cmpProp]; omega) | decide) ?_ | refine p_cmp_f rfl rfl rfl rfl (by first | exact rfl | (simp only [cmpProp]; omega) | decide) ?_ | (refine p_cmp rfl rfl rfl rfl (fun hc => ?_) (fun hc => ?_) <;> simp only [cmpProp] at hc)) | (refine gL ?_; first | refine p_val rfl (g_ld rfl (h.cell (by repeat first | exact .here | apply Has.there) (by exact rfl))) ?_ | refine p_val rfl (g_lda rfl rfl (h.at (by repeat first | exact .here | apply Has.there))) ?_) | refine p_val rfl (g_idx rfl rfl (by omega) (by omega)) ?_) | refine x_nil ?_ | (refine gX ?_; first | refine x_seq ?_ | refine x_ops ?_ | refine x_cond_t rfl ?_ | refine x_cond_f rfl ?_ | refine x_block ?_ | refine x_skip ?_ | refine x_exit rfl ?_) | refine x_blk ?_)
  refine x_keep [0, 3, 4] rfl ?_
  refine x_loop_inv (fun lm le w => ∃ (i : Nat), ∃ (v3 : Value), lm = l.length - i ∧ i ≤ l.length ∧ le = [(0, .pointer (some ⟨b, 0, none⟩)), (3, v3), (4, .int .i64 i)] ∧ Sat S w (ownS T.api_Action 3 v3 (rows actC (waitL (l.take i) (g.take i))) :: pt b (.cells #[.slice a l.length cap, .slice c g.length d] T.haycroftref07_List (0, 0)) :: ownS T.api_Action 3 (.slice a l.length cap) (rows actC l) :: ownS T.bool 1 (.slice c g.length d) (rows boolC g) :: G)) (l.length) ⟨0, _, rfl, by omega, rfl, h⟩ ?_
  clear h
  rintro lm le w ⟨i, v3, rfl, hi0, rfl, h⟩ ih
  by_cases h1 : i < l.length
  · obtain ⟨x, hx⟩ := has_elem h1
    obtain ⟨y, hy⟩ := has_elem (show i < g.length by omega)
    have hrd := ownS_rd (v := .slice a l.length cap) h (by repeat first | exact .here | apply Has.there)
    have hrg := ownS_rd (v := .slice c g.length d) h (by repeat first | exact .here | apply Has.there)
    obtain ⟨b1, o1, rfl⟩ := hrd.addr (by omega)
    obtain ⟨b2, o2, rfl⟩ := hrg.addr (by omega)
    have hn := waitL_append (l.take i) (g.take i) (by rw [List.length_take, List.length_take]; omega) x y
    rw [← take_next hx, ← take_next hy] at hn
    have hle := waitL_le (l.take i) (g.take i)
    rw [List.length_take] at hle
    repeat' (first | (refine gO ?_; first | refine p_skip rfl ?_ | refine p_val rfl (gives_pure rfl) ?_ | (refine gB .add ?_; first | refine p_val rfl (g_add_i rfl rfl (by omega) (by omega)) ?_ | refine p_val rfl (g_add_u rfl rfl (by omega) (by omega)) ?_) | (refine gB _ ?_; first | refine p_cmp_t rfl rfl rfl rfl (by first | exact rfl | (simp only [cmpProp]; omega) | decide) ?_ | refine p_cmp_f rfl rfl rfl rfl (by first | exact rfl | (simp only [cmpProp]; omega) | decide) ?_ | (refine p_cmp rfl rfl rfl rfl (fun hc => ?_) (fun hc => ?_) <;> simp only [cmpProp] at hc)) | (refine gL ?_; first | refine p_val rfl (g_ld rfl (h.cell (by repeat first | exact .here | apply Has.there) (by exact rfl))) ?_ | refine p_val rfl (g_lda rfl rfl (h.at (by repeat first | exact .here | apply Has.there))) ?_) | refine p_val rfl (g_idx rfl rfl (by omega) (by omega)) ?_) | refine x_nil ?_ | (refine gX ?_; first | refine x_seq ?_ | refine x_ops ?_ | refine x_cond_t rfl ?_ | refine x_cond_f rfl ?_ | refine x_block ?_ | refine x_skip ?_ | refine x_exit rfl ?_) | refine x_blk ?_)
    refine p_val rfl (g_ldF (f := 0) boolC_len rfl hrg hy rfl (by omega)) ?_
    cases y
    · repeat' (first | (refine gO ?_; first | refine p_skip rfl ?_ | refine p_val rfl (gives_pure rfl) ?_ | (refine gB .add ?_; first | refine p_val rfl (g_add_i rfl rfl (by omega) (by omega)) ?_ | refine p_val rfl (g_add_u rfl rfl (by omega) (by omega)) ?_) | (refine gB _ ?_; first | refine p_cmp_t rfl rfl rfl rfl (by first | exact rfl | (simp only [cmpProp]; omega) | decide) ?_ | refine p_cmp_f rfl rfl rfl rfl (by first | exact rfl | (simp only [cmpProp]; omega) | decide) ?_ | (refine p_cmp rfl rfl rfl rfl (fun hc => ?_) (fun hc => ?_) <;> simp only [cmpProp] at hc)) | (refine gL ?_; first | refine p_val rfl (g_ld rfl (h.cell (by repeat first | exact .here | apply Has.there) (by exact rfl))) ?_ | refine p_val rfl (g_lda rfl rfl (h.at (by repeat first | exact .here | apply Has.there))) ?_) | refine p_val rfl (g_idx rfl rfl (by omega) (by omega)) ?_) | refine x_nil ?_ | (refine gX ?_; first | refine x_seq ?_ | refine x_ops ?_ | refine x_cond_t rfl ?_ | refine x_cond_f rfl ?_ | refine x_block ?_ | refine x_skip ?_ | refine x_exit rfl ?_) | refine x_blk ?_)
      refine p_val rfl (g_ldE actC_len rfl hrd hx (by omega)) ?_
      refine p_lit (actC x) rfl rfl rfl rfl rfl rfl h (fun v w h => ?_)
      refine p_app rfl rfl rfl rfl (by decide) (h.pick (by repeat first | exact .here | apply Has.there)) (ownS_rd h .here) (actC_one x) ?_ ?_ (fun v w h => ?_)
      · rw [rows_length actC_len]; simp [actC]; omega
      · rw [rows_length actC_len]; simp [actC]; omega
      repeat' (first | (refine gO ?_; first | refine p_skip rfl ?_ | refine p_val rfl (gives_pure rfl) ?_ | (refine gB .add ?_; first | refine p_val rfl (g_add_i rfl rfl (by omega) (by omega)) ?_ | refine p_val rfl (g_add_u rfl rfl (by omega) (by omega)) ?_) | (refine gB _ ?_; first | refine p_cmp_t rfl rfl rfl rfl (by first | exact rfl | (simp only [cmpProp]; omega) | decide) ?_ | refine p_cmp_f rfl rfl rfl rfl (by first | exact rfl | (simp only [cmpProp]; omega) | decide) ?_ | (refine p_cmp rfl rfl rfl rfl (fun hc => ?_) (fun hc => ?_) <;> simp only [cmpProp] at hc)) | (refine gL ?_; first | refine p_val rfl (g_ld rfl (h.cell (by repeat first | exact .here | apply Has.there) (by exact rfl))) ?_ | refine p_val rfl (g_lda rfl rfl (h.at (by repeat first | exact .here | apply Has.there))) ?_) | refine p_val rfl (g_idx rfl rfl (by omega) (by omega)) ?_) | refine x_nil ?_ | (refine gX ?_; first | refine x_seq ?_ | refine x_ops ?_ | refine x_cond_t rfl ?_ | refine x_cond_f rfl ?_ | refine x_block ?_ | refine x_skip ?_ | refine x_exit rfl ?_) | refine x_blk ?_)
      have e : rows actC (waitL (l.take i) (g.take i)) ++ actC x = rows actC (waitL (l.take (i + 1)) (g.take (i + 1))) := by rw [hn, rows_append]; simp [rows]
      rw [e] at h
      refine x_keep [0, 3, 4] rfl (ih _ _ _ (by omega) ⟨i + 1, _, rfl, by omega, rfl, ?_⟩)
      exact h.sub (.cons (by repeat first | exact .here | apply Has.there) (.cons (by repeat first | exact .here | apply Has.there) (.cons (by repeat first | exact .here | apply Has.there) (.cons (by repeat first | exact .here | apply Has.there) (by repeat first | exact .refl _ | apply Sub.skip)))))
    · repeat' (first | (refine gO ?_; first | refine p_skip rfl ?_ | refine p_val rfl (gives_pure rfl) ?_ | (refine gB .add ?_; first | refine p_val rfl (g_add_i rfl rfl (by omega) (by omega)) ?_ | refine p_val rfl (g_add_u rfl rfl (by omega) (by omega)) ?_) | (refine gB _ ?_; first | refine p_cmp_t rfl rfl rfl rfl (by first | exact rfl | (simp only [cmpProp]; omega) | decide) ?_ | refine p_cmp_f rfl rfl rfl rfl (by first | exact rfl | (simp only [cmpProp]; omega) | decide) ?_ | (refine p_cmp rfl rfl rfl rfl (fun hc => ?_) (fun hc => ?_) <;> simp only [cmpProp] at hc)) | (refine gL ?_; first | refine p_val rfl (g_ld rfl (h.cell (by repeat first | exact .here | apply Has.there) (by exact rfl))) ?_ | refine p_val rfl (g_lda rfl rfl (h.at (by repeat first | exact .here | apply Has.there))) ?_) | refine p_val rfl (g_idx rfl rfl (by omega) (by omega)) ?_) | refine x_nil ?_ | (refine gX ?_; first | refine x_seq ?_ | refine x_ops ?_ | refine x_cond_t rfl ?_ | refine x_cond_f rfl ?_ | refine x_block ?_ | refine x_skip ?_ | refine x_exit rfl ?_) | refine x_blk ?_)
      have e : waitL (l.take i) (g.take i) = waitL (l.take (i + 1)) (g.take (i + 1)) := by rw [hn]; simp
      rw [e] at h
      exact x_keep [0, 3, 4] rfl (ih _ _ _ (by omega) ⟨i + 1, _, rfl, by omega, rfl, h⟩)
  · obtain rfl : i = l.length := by omega
    rw [List.take_length, List.take_of_length_le (by omega)] at h
    repeat' (first | (refine gO ?_; first | refine p_skip rfl ?_ | refine p_val rfl (gives_pure rfl) ?_ | (refine gB .add ?_; first | refine p_val rfl (g_add_i rfl rfl (by omega) (by omega)) ?_ | refine p_val rfl (g_add_u rfl rfl (by omega) (by omega)) ?_) | (refine gB _ ?_; first | refine p_cmp_t rfl rfl rfl rfl (by first | exact rfl | (simp only [cmpProp]; omega) | decide) ?_ | refine p_cmp_f rfl rfl rfl rfl (by first | exact rfl | (simp only [cmpProp]; omega) | decide) ?_ | (refine p_cmp rfl rfl rfl rfl (fun hc => ?_) (fun hc => ?_) <;> simp only [cmpProp] at hc)) | (refine gL ?_; first | refine p_val rfl (g_ld rfl (h.cell (by repeat first | exact .here | apply Has.there) (by exact rfl))) ?_ | refine p_val rfl (g_lda rfl rfl (h.at (by repeat first | exact .here | apply Has.there))) ?_) | refine p_val rfl (g_idx rfl rfl (by omega) (by omega)) ?_) | refine x_nil ?_ | (refine gX ?_; first | refine x_seq ?_ | refine x_ops ?_ | refine x_cond_t rfl ?_ | refine x_cond_f rfl ?_ | refine x_block ?_ | refine x_skip ?_ | refine x_exit rfl ?_) | refine x_blk ?_)
    refine x_ret' is_ref07_List_Waiting rfl ?_
    exact (isRef7_shut (l := l) (g := g) h (by repeat first | exact .here | apply Has.there) (.there .here) (by repeat first | exact .here | apply Has.there)).sub (.cons (by repeat first | exact .here | apply Has.there) (.cons .here (by repeat first | exact .refl _ | apply Sub.skip)))

theorem ref07_List_Put_spec {b : Nat} {l : List ActM} {g : List Bool} (a : ActM) (hl : l.length ≤ 999999) (hg : g.length = l.length) (h : Sat S w (isRef7 b l g :: G)) :
    Ret Try.prog F.ref07_List_Put #[.pointer (some ⟨b, 0, none⟩), .agg (actC a).toArray] w (fun v w' => v = .int .i64 (if 16 ≤ (waitL l g).length then 9 else 0) ∧ Sat S w' ((if 16 ≤ (waitL l g).length then isRef7 b l g else isRef7 b (l ++ [a]) (g ++ [false])) :: G)) := by
  refine ret_of is_ref07_List_Put rfl ?_
  repeat' (first | (refine gO ?_; first | refine p_skip rfl ?_ | refine p_val rfl (gives_pure rfl) ?_ | (refine gB _ ?_; first | refine p_cmp_t rfl rfl rfl rfl (by first | exact rfl | (simp only [cmpProp]; omega) | decide) ?_ | refine p_cmp_f rfl rfl rfl rfl (by first | exact rfl | (simp only [cmpProp]; omega) | decide) ?_ | (refine p_cmp rfl rfl rfl rfl (fun hc => ?_) (fun hc => ?_) <;> simp only [cmpProp] at hc)) | (refine gL ?_; first | refine p_val rfl (g_ld rfl (h.cell (by repeat first | exact .here | apply Has.there) (by exact rfl))) ?_ | refine p_val rfl (g_lda rfl rfl (h.at (by repeat first | exact .here | apply Has.there))) ?_)) | refine x_nil ?_ | (refine gD ?_; first | refine r_skip rfl rfl rfl ?_ | refine r_pure rfl rfl rfl (fun _ => gives_pure rfl) ?_ | (refine gR _ ?_; first | refine r_cmp_t rfl rfl rfl rfl rfl (by first | exact rfl | (simp only [cmpProp]; omega) | decide) ?_ | refine r_cmp_f rfl rfl rfl rfl rfl (by first | exact rfl | (simp only [cmpProp]; omega) | decide) ?_ | (refine r_cmp rfl rfl rfl rfl rfl (fun hc => ?_) (fun hc => ?_) <;> simp only [cmpProp] at hc)) | (refine gLR ?_; first | refine r_ld rfl rfl rfl (h.cell (by repeat first | exact .here | apply Has.there) (by exact rfl)) ?_ | refine r_lda rfl rfl rfl rfl (h.at (by repeat first | exact .here | apply Has.there)) ?_)) | refine r_done rfl ?_ | (refine gX ?_; first | refine x_seq ?_ | refine x_ops ?_ | refine x_cond_t rfl ?_ | refine x_cond_f rfl ?_ | refine x_skip ?_ | (refine x_drawn rfl ?_; have h := h.drew) | refine x_drawn rfl ?_))
  refine p_do rfl (d_box rfl h) ?_
  rintro _ w ⟨b3, rfl, h⟩
  repeat' (first | (refine gO ?_; first | refine p_skip rfl ?_ | refine p_val rfl (gives_pure rfl) ?_ | (refine gB _ ?_; first | refine p_cmp_t rfl rfl rfl rfl (by first | exact rfl | (simp only [cmpProp]; omega) | decide) ?_ | refine p_cmp_f rfl rfl rfl rfl (by first | exact rfl | (simp only [cmpProp]; omega) | decide) ?_ | (refine p_cmp rfl rfl rfl rfl (fun hc => ?_) (fun hc => ?_) <;> simp only [cmpProp] at hc)) | (refine gL ?_; first | refine p_val rfl (g_ld rfl (h.cell (by repeat first | exact .here | apply Has.there) (by exact rfl))) ?_ | refine p_val rfl (g_lda rfl rfl (h.at (by repeat first | exact .here | apply Has.there))) ?_)) | refine x_nil ?_ | (refine gD ?_; first | refine r_skip rfl rfl rfl ?_ | refine r_pure rfl rfl rfl (fun _ => gives_pure rfl) ?_ | (refine gR _ ?_; first | refine r_cmp_t rfl rfl rfl rfl rfl (by first | exact rfl | (simp only [cmpProp]; omega) | decide) ?_ | refine r_cmp_f rfl rfl rfl rfl rfl (by first | exact rfl | (simp only [cmpProp]; omega) | decide) ?_ | (refine r_cmp rfl rfl rfl rfl rfl (fun hc => ?_) (fun hc => ?_) <;> simp only [cmpProp] at hc)) | (refine gLR ?_; first | refine r_ld rfl rfl rfl (h.cell (by repeat first | exact .here | apply Has.there) (by exact rfl)) ?_ | refine r_lda rfl rfl rfl rfl (h.at (by repeat first | exact .here | apply Has.there)) ?_)) | refine r_done rfl ?_ | (refine gX ?_; first | refine x_seq ?_ | refine x_ops ?_ | refine x_cond_t rfl ?_ | refine x_cond_f rfl ?_ | refine x_skip ?_ | (refine x_drawn rfl ?_; have h := h.drew) | refine x_drawn rfl ?_))
  refine p_call rfl rfl (ref07_List_Waiting_spec (by omega) hg (h.pick (by repeat first | exact .here | apply Has.there))) ?_
  rintro v w h
  obtain ⟨_, len, _, rfl, _⟩ := ownS_slice h .here
  have hlen := (ownS_rd h .here).rlen actC_len (by decide)
  have h := h.drop
  obtain ⟨ad, cap, c, d, h⟩ := isRef7_open h
  repeat' (first | (refine gO ?_; first | refine p_skip rfl ?_ | refine p_val rfl (gives_pure rfl) ?_ | (refine gB _ ?_; first | refine p_cmp_t rfl rfl rfl rfl (by first | exact rfl | (simp only [cmpProp]; omega) | decide) ?_ | refine p_cmp_f rfl rfl rfl rfl (by first | exact rfl | (simp only [cmpProp]; omega) | decide) ?_ | (refine p_cmp rfl rfl rfl rfl (fun hc => ?_) (fun hc => ?_) <;> simp only [cmpProp] at hc)) | (refine gL ?_; first | refine p_val rfl (g_ld rfl (h.cell (by repeat first | exact .here | apply Has.there) (by exact rfl))) ?_ | refine p_val rfl (g_lda rfl rfl (h.at (by repeat first | exact .here | apply Has.there))) ?_)) | refine x_nil ?_ | (refine gD ?_; first | refine r_skip rfl rfl rfl ?_ | refine r_pure rfl rfl rfl (fun _ => gives_pure rfl) ?_ | (refine gR _ ?_; first | refine r_cmp_t rfl rfl rfl rfl rfl (by first | exact rfl | (simp only [cmpProp]; omega) | decide) ?_ | refine r_cmp_f rfl rfl rfl rfl rfl (by first | exact rfl | (simp only [cmpProp]; omega) | decide) ?_ | (refine r_cmp rfl rfl rfl rfl rfl (fun hc => ?_) (fun hc => ?_) <;> simp only [cmpProp] at hc)) | (refine gLR ?_; first | refine r_ld rfl rfl rfl (h.cell (by repeat first | exact .here | apply Has.there) (by exact rfl)) ?_ | refine r_lda rfl rfl rfl rfl (h.at (by repeat first | exact .here | apply Has.there)) ?_)) | refine r_done rfl ?_ | (refine gX ?_; first | refine x_seq ?_ | refine x_ops ?_ | refine x_cond_t rfl ?_ | refine x_cond_f rfl ?_ | refine x_skip ?_ | (refine x_drawn rfl ?_; have h := h.drew) | refine x_drawn rfl ?_))
  · refine x_ret' is_ref07_List_Put rfl ⟨by rw [if_pos (by omega)]; rfl, ?_⟩
    rw [if_pos (by omega)]
    exact (isRef7_shut h (by repeat first | exact .here | apply Has.there) (by repeat first | exact .here | apply Has.there) (by repeat first | exact .here | apply Has.there)).sub (.cons .here (by repeat first | exact .refl _ | apply Sub.skip))
  · rw [if_neg (by omega), if_neg (by omega)]
    refine r_do rfl rfl (d_lit (actC a) rfl rfl rfl rfl rfl h) ?_
    rintro v6 w h
    refine ⟨(by repeat (first | exact now_nil | refine now_skip rfl ?_ | refine now_cons (by first | exact ⟨_, h⟩ | exact h | exact h.cell (by repeat first | exact .here | apply Has.there) (by exact rfl) | exact h.at (by repeat first | exact .here | apply Has.there) | assumption) ?_)), ?_⟩
    repeat' (first | (refine gO ?_; first | refine p_skip rfl ?_ | refine p_val rfl (gives_pure rfl) ?_ | (refine gB _ ?_; first | refine p_cmp_t rfl rfl rfl rfl (by first | exact rfl | (simp only [cmpProp]; omega) | decide) ?_ | refine p_cmp_f rfl rfl rfl rfl (by first | exact rfl | (simp only [cmpProp]; omega) | decide) ?_ | (refine p_cmp rfl rfl rfl rfl (fun hc => ?_) (fun hc => ?_) <;> simp only [cmpProp] at hc)) | (refine gL ?_; first | refine p_val rfl (g_ld rfl (h.cell (by repeat first | exact .here | apply Has.there) (by exact rfl))) ?_ | refine p_val rfl (g_lda rfl rfl (h.at (by repeat first | exact .here | apply Has.there))) ?_)) | refine x_nil ?_ | (refine gD ?_; first | refine r_skip rfl rfl rfl ?_ | refine r_pure rfl rfl rfl (fun _ => gives_pure rfl) ?_ | (refine gR _ ?_; first | refine r_cmp_t rfl rfl rfl rfl rfl (by first | exact rfl | (simp only [cmpProp]; omega) | decide) ?_ | refine r_cmp_f rfl rfl rfl rfl rfl (by first | exact rfl | (simp only [cmpProp]; omega) | decide) ?_ | (refine r_cmp rfl rfl rfl rfl rfl (fun hc => ?_) (fun hc => ?_) <;> simp only [cmpProp] at hc)) | (refine gLR ?_; first | refine r_ld rfl rfl rfl (h.cell (by repeat first | exact .here | apply Has.there) (by exact rfl)) ?_ | refine r_lda rfl rfl rfl rfl (h.at (by repeat first | exact .here | apply Has.there)) ?_)) | refine r_done rfl ?_ | (refine gX ?_; first | refine x_seq ?_ | refine x_ops ?_ | refine x_cond_t rfl ?_ | refine x_cond_f rfl ?_ | refine x_skip ?_ | (refine x_drawn rfl ?_; have h := h.drew) | refine x_drawn rfl ?_))
    refine r_do rfl rfl (d_appR rfl rfl rfl (by decide) (h.pick (by repeat first | exact .here | apply Has.there)) (ownS_rd h .here) (actC_one a) (by rw [rows_length actC_len]; simp [actC]; omega) (by rw [rows_length actC_len]; simp [actC]; omega)) ?_
    rintro v7 w h
    refine ⟨(by repeat (first | exact now_nil | refine now_skip rfl ?_ | refine now_cons (by first | exact ⟨_, h⟩ | exact h | exact h.cell (by repeat first | exact .here | apply Has.there) (by exact rfl) | exact h.at (by repeat first | exact .here | apply Has.there) | assumption) ?_)), ?_⟩
    repeat' (first | (refine gO ?_; first | refine p_skip rfl ?_ | refine p_val rfl (gives_pure rfl) ?_ | (refine gB _ ?_; first | refine p_cmp_t rfl rfl rfl rfl (by first | exact rfl | (simp only [cmpProp]; omega) | decide) ?_ | refine p_cmp_f rfl rfl rfl rfl (by first | exact rfl | (simp only [cmpProp]; omega) | decide) ?_ | (refine p_cmp rfl rfl rfl rfl (fun hc => ?_) (fun hc => ?_) <;> simp only [cmpProp] at hc)) | (refine gL ?_; first | refine p_val rfl (g_ld rfl (h.cell (by repeat first | exact .here | apply Has.there) (by exact rfl))) ?_ | refine p_val rfl (g_lda rfl rfl (h.at (by repeat first | exact .here | apply Has.there))) ?_)) | refine x_nil ?_ | (refine gD ?_; first | refine r_skip rfl rfl rfl ?_ | refine r_pure rfl rfl rfl (fun _ => gives_pure rfl) ?_ | (refine gR _ ?_; first | refine r_cmp_t rfl rfl rfl rfl rfl (by first | exact rfl | (simp only [cmpProp]; omega) | decide) ?_ | refine r_cmp_f rfl rfl rfl rfl rfl (by first | exact rfl | (simp only [cmpProp]; omega) | decide) ?_ | (refine r_cmp rfl rfl rfl rfl rfl (fun hc => ?_) (fun hc => ?_) <;> simp only [cmpProp] at hc)) | (refine gLR ?_; first | refine r_ld rfl rfl rfl (h.cell (by repeat first | exact .here | apply Has.there) (by exact rfl)) ?_ | refine r_lda rfl rfl rfl rfl (h.at (by repeat first | exact .here | apply Has.there)) ?_)) | refine r_done rfl ?_ | (refine gX ?_; first | refine x_seq ?_ | refine x_ops ?_ | refine x_cond_t rfl ?_ | refine x_cond_f rfl ?_ | refine x_skip ?_ | (refine x_drawn rfl ?_; have h := h.drew) | refine x_drawn rfl ?_))
    refine r_do rfl rfl (d_st rfl rfl (ownS_cell h (by repeat first | exact .here | apply Has.there)) (h.pick (by repeat first | exact .here | apply Has.there)) (by simp)) ?_
    rintro _ w ⟨rfl, h⟩
    refine ⟨(by repeat (first | exact now_nil | refine now_skip rfl ?_ | refine now_cons (by first | exact ⟨_, h⟩ | exact h | exact h.cell (by repeat first | exact .here | apply Has.there) (by exact rfl) | exact h.at (by repeat first | exact .here | apply Has.there) | assumption) ?_)), ?_⟩
    repeat' (first | (refine gO ?_; first | refine p_skip rfl ?_ | refine p_val rfl (gives_pure rfl) ?_ | (refine gB _ ?_; first | refine p_cmp_t rfl rfl rfl rfl (by first | exact rfl | (simp only [cmpProp]; omega) | decide) ?_ | refine p_cmp_f rfl rfl rfl rfl (by first | exact rfl | (simp only [cmpProp]; omega) | decide) ?_ | (refine p_cmp rfl rfl rfl rfl (fun hc => ?_) (fun hc => ?_) <;> simp only [cmpProp] at hc)) | (refine gL ?_; first | refine p_val rfl (g_ld rfl (h.cell (by repeat first | exact .here | apply Has.there) (by exact rfl))) ?_ | refine p_val rfl (g_lda rfl rfl (h.at (by repeat first | exact .here | apply Has.there))) ?_)) | refine x_nil ?_ | (refine gD ?_; first | refine r_skip rfl rfl rfl ?_ | refine r_pure rfl rfl rfl (fun _ => gives_pure rfl) ?_ | (refine gR _ ?_; first | refine r_cmp_t rfl rfl rfl rfl rfl (by first | exact rfl | (simp only [cmpProp]; omega) | decide) ?_ | refine r_cmp_f rfl rfl rfl rfl rfl (by first | exact rfl | (simp only [cmpProp]; omega) | decide) ?_ | (refine r_cmp rfl rfl rfl rfl rfl (fun hc => ?_) (fun hc => ?_) <;> simp only [cmpProp] at hc)) | (refine gLR ?_; first | refine r_ld rfl rfl rfl (h.cell (by repeat first | exact .here | apply Has.there) (by exact rfl)) ?_ | refine r_lda rfl rfl rfl rfl (h.at (by repeat first | exact .here | apply Has.there)) ?_)) | refine r_done rfl ?_ | (refine gX ?_; first | refine x_seq ?_ | refine x_ops ?_ | refine x_cond_t rfl ?_ | refine x_cond_f rfl ?_ | refine x_skip ?_ | (refine x_drawn rfl ?_; have h := h.drew) | refine x_drawn rfl ?_))
    have e : rows actC l ++ actC a = rows actC (l ++ [a]) := by rw [rows_append, rows_one]
    rw [e] at h
    refine p_lit (boolC false) rfl rfl rfl rfl rfl rfl h (fun v w h => ?_)
    refine p_app rfl rfl rfl rfl (by decide) (h.pick (by repeat first | exact .here | apply Has.there)) (ownS_rd h .here) (boolC_one false) ?_ ?_ (fun v w h => ?_)
    · rw [rows_length boolC_len]; simp [boolC]; omega
    · rw [rows_length boolC_len]; simp [boolC]; omega
    repeat' (first | (refine gO ?_; first | refine p_skip rfl ?_ | refine p_val rfl (gives_pure rfl) ?_ | (refine gB _ ?_; first | refine p_cmp_t rfl rfl rfl rfl (by first | exact rfl | (simp only [cmpProp]; omega) | decide) ?_ | refine p_cmp_f rfl rfl rfl rfl (by first | exact rfl | (simp only [cmpProp]; omega) | decide) ?_ | (refine p_cmp rfl rfl rfl rfl (fun hc => ?_) (fun hc => ?_) <;> simp only [cmpProp] at hc)) | (refine gL ?_; first | refine p_val rfl (g_ld rfl (h.cell (by repeat first | exact .here | apply Has.there) (by exact rfl))) ?_ | refine p_val rfl (g_lda rfl rfl (h.at (by repeat first | exact .here | apply Has.there))) ?_)) | refine x_nil ?_ | (refine gD ?_; first | refine r_skip rfl rfl rfl ?_ | refine r_pure rfl rfl rfl (fun _ => gives_pure rfl) ?_ | (refine gR _ ?_; first | refine r_cmp_t rfl rfl rfl rfl rfl (by first | exact rfl | (simp only [cmpProp]; omega) | decide) ?_ | refine r_cmp_f rfl rfl rfl rfl rfl (by first | exact rfl | (simp only [cmpProp]; omega) | decide) ?_ | (refine r_cmp rfl rfl rfl rfl rfl (fun hc => ?_) (fun hc => ?_) <;> simp only [cmpProp] at hc)) | (refine gLR ?_; first | refine r_ld rfl rfl rfl (h.cell (by repeat first | exact .here | apply Has.there) (by exact rfl)) ?_ | refine r_lda rfl rfl rfl rfl (h.at (by repeat first | exact .here | apply Has.there)) ?_)) | refine r_done rfl ?_ | (refine gX ?_; first | refine x_seq ?_ | refine x_ops ?_ | refine x_cond_t rfl ?_ | refine x_cond_f rfl ?_ | refine x_skip ?_ | (refine x_drawn rfl ?_; have h := h.drew) | refine x_drawn rfl ?_))
    refine p_do rfl (d_st rfl rfl (ownS_cell h (by repeat first | exact .here | apply Has.there)) (h.pick (by repeat first | exact .here | apply Has.there)) (by simp)) ?_
    rintro _ w ⟨rfl, h⟩
    repeat' (first | (refine gO ?_; first | refine p_skip rfl ?_ | refine p_val rfl (gives_pure rfl) ?_ | (refine gB _ ?_; first | refine p_cmp_t rfl rfl rfl rfl (by first | exact rfl | (simp only [cmpProp]; omega) | decide) ?_ | refine p_cmp_f rfl rfl rfl rfl (by first | exact rfl | (simp only [cmpProp]; omega) | decide) ?_ | (refine p_cmp rfl rfl rfl rfl (fun hc => ?_) (fun hc => ?_) <;> simp only [cmpProp] at hc)) | (refine gL ?_; first | refine p_val rfl (g_ld rfl (h.cell (by repeat first | exact .here | apply Has.there) (by exact rfl))) ?_ | refine p_val rfl (g_lda rfl rfl (h.at (by repeat first | exact .here | apply Has.there))) ?_)) | refine x_nil ?_ | (refine gD ?_; first | refine r_skip rfl rfl rfl ?_ | refine r_pure rfl rfl rfl (fun _ => gives_pure rfl) ?_ | (refine gR _ ?_; first | refine r_cmp_t rfl rfl rfl rfl rfl (by first | exact rfl | (simp only [cmpProp]; omega) | decide) ?_ | refine r_cmp_f rfl rfl rfl rfl rfl (by first | exact rfl | (simp only [cmpProp]; omega) | decide) ?_ | (refine r_cmp rfl rfl rfl rfl rfl (fun hc => ?_) (fun hc => ?_) <;> simp only [cmpProp] at hc)) | (refine gLR ?_; first | refine r_ld rfl rfl rfl (h.cell (by repeat first | exact .here | apply Has.there) (by exact rfl)) ?_ | refine r_lda rfl rfl rfl rfl (h.at (by repeat first | exact .here | apply Has.there)) ?_)) | refine r_done rfl ?_ | (refine gX ?_; first | refine x_seq ?_ | refine x_ops ?_ | refine x_cond_t rfl ?_ | refine x_cond_f rfl ?_ | refine x_skip ?_ | (refine x_drawn rfl ?_; have h := h.drew) | refine x_drawn rfl ?_))
    have e : rows boolC g ++ boolC false = rows boolC (g ++ [false]) := by rw [rows_append, rows_one]
    rw [e] at h
    refine x_ret' is_ref07_List_Put rfl ⟨rfl, ?_⟩
    exact (isRef7_shut h (by repeat first | exact .here | apply Has.there) (by repeat first | exact .here | apply Has.there) (by repeat first | exact .here | apply Has.there)).sub (.cons .here (by repeat first | exact .refl _ | apply Sub.skip))

theorem ref07_List_Ready_spec {b : Nat} {l : List ActM} {g : List Bool} (s : Int) (hl : l.length ≤ 1000000) (hg : g.length = l.length) (h : Sat S w (isRef7 b l g :: G)) :
    Ret Try.prog F.ref07_List_Ready #[.pointer (some ⟨b, 0, none⟩), .int .u64 s] w (fun v w' => Sat S w' (ownS T.api_Action 3 v (rows actC (dueL s (waitL l g))) :: isRef7 b l (goneL s l g) :: G)) := by
  refine ret_of is_ref07_List_Ready rfl ?_
  obtain ⟨a, cap, c, d, h⟩ := isRef7_open h
  repeat' (first | (refine gO ?_; first | refine p_skip rfl ?_ | refine p_val rfl (gives_pure rfl) ?_ | (refine gB .add ?_; first | refine p_val rfl (g_add_i rfl rfl (by omega) (by omega)) ?_ | refine p_val rfl (g_add_u rfl rfl (by omega) (by omega)) ?_) | (refine gB _ ?_; first | refine p_cmp_t rfl rfl rfl rfl (by first | exact rfl | (simp only [cmpProp]; omega) | decide) ?_ | refine p_cmp_f rfl rfl rfl rfl (by first | exact rfl | (simp only [cmpProp]; omega) | decide) ?_ | (refine p_cmp rfl rfl rfl rfl (fun hc => ?_) (fun hc => ?_) <;> simp only [cmpProp] at hc)) | (refine gL ?_; first | refine p_val rfl (g_ld rfl (h.cell (by repeat first | exact .here | apply Has.there) (by exact rfl))) ?_ | refine p_val rfl (g_lda rfl rfl (h.at (by repeat first | exact .here | apply Has.there))) ?_) | refine p_val rfl (g_idx rfl rfl (by omega) (by omega)) ?_) | refine x_nil ?_ | (refine gX ?_; first | refine x_seq ?_ | refine x_ops ?_ | refine x_cond_t rfl ?_ | refine x_cond_f rfl ?_ | refine x_block ?_ | refine x_skip ?_ | refine x_exit rfl ?_) | refine x_blk ?_)
  refine p_lit [] rfl rfl rfl rfl rfl rfl h (fun v w h => ?_)
  repeat' (first | (refine gO ?_; first | refine p_skip rfl ?_ | refine p_val rfl (gives_pure rfl) ?_ | (refine gB .add ?_; first | refine p_val rfl (g_add_i rfl rfl (by omega) (by omega)) ?_ | refine p_val rfl (g_add_u rfl rfl (by omega) (by omega)) ?_) | (refine gB _ ?_; first | refine p_cmp_t rfl rfl rfl rfl (by first | exact rfl | (simp only [cmpProp]; omega) | decide) ?_ | refine p_cmp_f rfl rfl rfl rfl (by first | exact rfl | (simp only [cmpProp]; omega) | decide) ?_ | (refine p_cmp rfl rfl rfl rfl (fun hc => ?_) (fun hc => ?_) <;> simp only [cmpProp] at hc)) | (refine gL ?_; first | refine p_val rfl (g_ld rfl (h.cell (by repeat first | exact .here | apply Has.there) (by exact rfl))) ?_ | refine p_val rfl (g_lda rfl rfl (h.at (by repeat first | exact .here | apply Has.there))) ?_) | refine p_val rfl (g_idx rfl rfl (by omega) (by omega)) ?_) | refine x_nil ?_ | (refine gX ?_; first | refine x_seq ?_ | refine x_ops ?_ | refine x_cond_t rfl ?_ | refine x_cond_f rfl ?_ | refine x_block ?_ | refine x_skip ?_ | refine x_exit rfl ?_) | refine x_blk ?_)
  refine x_keep [0, 1, 5, 6] rfl ?_
  refine x_loop_inv (fun lm le w => ∃ (i : Nat), ∃ (v5 : Value), lm = l.length - i ∧ i ≤ l.length ∧ le = [(0, .pointer (some ⟨b, 0, none⟩)), (1, .int .u64 s), (5, v5), (6, .int .i64 i)] ∧ Sat S w (ownS T.api_Action 3 v5 (rows actC (dueL s (waitL (l.take i) (g.take i)))) :: pt b (.cells #[.slice a l.length cap, .slice c g.length d] T.haycroftref07_List (0, 0)) :: ownS T.api_Action 3 (.slice a l.length cap) (rows actC l) :: ownS T.bool 1 (.slice c g.length d) (rows boolC (goneL s (l.take i) (g.take i) ++ g.drop i)) :: G)) (l.length) ⟨0, _, rfl, by omega, rfl, h⟩ ?_
  clear h
  rintro lm le w ⟨i, v5, rfl, hi0, rfl, h⟩ ih
  by_cases h1 : i < l.length
  · obtain ⟨x, hx⟩ := has_elem h1
    obtain ⟨y, hy⟩ := has_elem (show i < g.length by omega)
    have hgl : (goneL s (l.take i) (g.take i)).length = i := by rw [goneL_length _ _ _ (by rw [List.length_take, List.length_take]; omega), List.length_take]; omega
    have hgy : (goneL s (l.take i) (g.take i) ++ g.drop i)[i]? = some y := by
      rw [List.getElem?_append_right (by omega), hgl, Nat.sub_self, List.getElem?_drop]
      exact hy
    have hrd := ownS_rd (v := .slice a l.length cap) h (by repeat first | exact .here | apply Has.there)
    have hrg := ownS_rd (v := .slice c g.length d) h (by repeat first | exact .here | apply Has.there)
    obtain ⟨b1, o1, rfl⟩ := hrd.addr (by omega)
    obtain ⟨b2, rfl⟩ := ownS_addr (a := c) h (by repeat first | exact .here | apply Has.there) (by omega)
    have hn := waitL_append (l.take i) (g.take i) (by rw [List.length_take, List.length_take]; omega) x y
    rw [← take_next hx, ← take_next hy] at hn
    have hgn := goneL_take s l g i x y hx hy
    have hdr := drop_next hy
    have hle := waitL_le (l.take i) (g.take i)
    rw [List.length_take] at hle
    have hle2 := List.length_filter_le (fun a : ActM => decide (a.ep ≤ s)) (waitL (l.take i) (g.take i))
    have hset : ∀ c, (goneL s (l.take i) (g.take i) ++ g.drop i).set i c = goneL s (l.take i) (g.take i) ++ [c] ++ g.drop (i + 1) := fun c => by
      rw [List.set_append_right _ _ (by omega), hgl, Nat.sub_self, hdr, List.set_cons_zero]
      simp
    repeat' (first | (refine gO ?_; first | refine p_skip rfl ?_ | refine p_val rfl (gives_pure rfl) ?_ | (refine gB .add ?_; first | refine p_val rfl (g_add_i rfl rfl (by omega) (by omega)) ?_ | refine p_val rfl (g_add_u rfl rfl (by omega) (by omega)) ?_) | (refine gB _ ?_; first | refine p_cmp_t rfl rfl rfl rfl (by first | exact rfl | (simp only [cmpProp]; omega) | decide) ?_ | refine p_cmp_f rfl rfl rfl rfl (by first | exact rfl | (simp only [cmpProp]; omega) | decide) ?_ | (refine p_cmp rfl rfl rfl rfl (fun hc => ?_) (fun hc => ?_) <;> simp only [cmpProp] at hc)) | (refine gL ?_; first | refine p_val rfl (g_ld rfl (h.cell (by repeat first | exact .here | apply Has.there) (by exact rfl))) ?_ | refine p_val rfl (g_lda rfl rfl (h.at (by repeat first | exact .here | apply Has.there))) ?_) | refine p_val rfl (g_idx rfl rfl (by omega) (by omega)) ?_) | refine x_nil ?_ | (refine gX ?_; first | refine x_seq ?_ | refine x_ops ?_ | refine x_cond_t rfl ?_ | refine x_cond_f rfl ?_ | refine x_block ?_ | refine x_skip ?_ | refine x_exit rfl ?_) | refine x_blk ?_)
    refine p_val rfl (g_ldF (f := 0) boolC_len rfl hrg hgy rfl (by omega)) ?_
    cases y
    · repeat' (first | (refine p_val rfl (g_ldF (f := 0) actC_len rfl hrd hx rfl (by omega)) ?_) | (refine gO ?_; first | refine p_skip rfl ?_ | refine p_val rfl (gives_pure rfl) ?_ | (refine gB .add ?_; first | refine p_val rfl (g_add_i rfl rfl (by omega) (by omega)) ?_ | refine p_val rfl (g_add_u rfl rfl (by omega) (by omega)) ?_) | (refine gB _ ?_; first | refine p_cmp_t rfl rfl rfl rfl (by first | exact rfl | (simp only [cmpProp]; omega) | decide) ?_ | refine p_cmp_f rfl rfl rfl rfl (by first | exact rfl | (simp only [cmpProp]; omega) | decide) ?_ | (refine p_cmp rfl rfl rfl rfl (fun hc => ?_) (fun hc => ?_) <;> simp only [cmpProp] at hc)) | (refine gL ?_; first | refine p_val rfl (g_ld rfl (h.cell (by repeat first | exact .here | apply Has.there) (by exact rfl))) ?_ | refine p_val rfl (g_lda rfl rfl (h.at (by repeat first | exact .here | apply Has.there))) ?_) | refine p_val rfl (g_idx rfl rfl (by omega) (by omega)) ?_) | refine x_nil ?_ | (refine gX ?_; first | refine x_seq ?_ | refine x_ops ?_ | refine x_cond_t rfl ?_ | refine x_cond_f rfl ?_ | refine x_block ?_ | refine x_skip ?_ | refine x_exit rfl ?_) | refine x_blk ?_)
      · refine p_val rfl (g_ldE actC_len rfl hrd hx (by omega)) ?_
        refine p_lit (actC x) rfl rfl rfl rfl rfl rfl h (fun v w h => ?_)
        refine p_app rfl rfl rfl rfl (by decide) (h.pick (by repeat first | exact .here | apply Has.there)) (ownS_rd h .here) (actC_one x) ?_ ?_ (fun v w h => ?_)
        · rw [rows_length actC_len]; simp [actC, dueL]; omega
        · rw [rows_length actC_len]; simp [actC, dueL]; omega
        repeat' (first | (refine gO ?_; first | refine p_skip rfl ?_ | refine p_val rfl (gives_pure rfl) ?_ | (refine gB .add ?_; first | refine p_val rfl (g_add_i rfl rfl (by omega) (by omega)) ?_ | refine p_val rfl (g_add_u rfl rfl (by omega) (by omega)) ?_) | (refine gB _ ?_; first | refine p_cmp_t rfl rfl rfl rfl (by first | exact rfl | (simp only [cmpProp]; omega) | decide) ?_ | refine p_cmp_f rfl rfl rfl rfl (by first | exact rfl | (simp only [cmpProp]; omega) | decide) ?_ | (refine p_cmp rfl rfl rfl rfl (fun hc => ?_) (fun hc => ?_) <;> simp only [cmpProp] at hc)) | (refine gL ?_; first | refine p_val rfl (g_ld rfl (h.cell (by repeat first | exact .here | apply Has.there) (by exact rfl))) ?_ | refine p_val rfl (g_lda rfl rfl (h.at (by repeat first | exact .here | apply Has.there))) ?_) | refine p_val rfl (g_idx rfl rfl (by omega) (by omega)) ?_) | refine x_nil ?_ | (refine gX ?_; first | refine x_seq ?_ | refine x_ops ?_ | refine x_cond_t rfl ?_ | refine x_cond_f rfl ?_ | refine x_block ?_ | refine x_skip ?_ | refine x_exit rfl ?_) | refine x_blk ?_)
        have hb := h.pick (A := ownS T.bool 1 (.slice (some ⟨b2, 0, none⟩) g.length d) (rows boolC (goneL s (l.take i) (g.take i) ++ g.drop i))) (by repeat first | exact .here | apply Has.there)
        refine p_do rfl (d_stR (f := 0) (a' := true) boolC_len rfl rfl rfl hb hgy rfl (by decide) (by omega)) ?_
        rintro _ w ⟨rfl, h⟩
        repeat' (first | (refine gO ?_; first | refine p_skip rfl ?_ | refine p_val rfl (gives_pure rfl) ?_ | (refine gB .add ?_; first | refine p_val rfl (g_add_i rfl rfl (by omega) (by omega)) ?_ | refine p_val rfl (g_add_u rfl rfl (by omega) (by omega)) ?_) | (refine gB _ ?_; first | refine p_cmp_t rfl rfl rfl rfl (by first | exact rfl | (simp only [cmpProp]; omega) | decide) ?_ | refine p_cmp_f rfl rfl rfl rfl (by first | exact rfl | (simp only [cmpProp]; omega) | decide) ?_ | (refine p_cmp rfl rfl rfl rfl (fun hc => ?_) (fun hc => ?_) <;> simp only [cmpProp] at hc)) | (refine gL ?_; first | refine p_val rfl (g_ld rfl (h.cell (by repeat first | exact .here | apply Has.there) (by exact rfl))) ?_ | refine p_val rfl (g_lda rfl rfl (h.at (by repeat first | exact .here | apply Has.there))) ?_) | refine p_val rfl (g_idx rfl rfl (by omega) (by omega)) ?_) | refine x_nil ?_ | (refine gX ?_; first | refine x_seq ?_ | refine x_ops ?_ | refine x_cond_t rfl ?_ | refine x_cond_f rfl ?_ | refine x_block ?_ | refine x_skip ?_ | refine x_exit rfl ?_) | refine x_blk ?_)
        rw [hset] at h
        have e1 : rows actC (dueL s (waitL (l.take i) (g.take i))) ++ actC x = rows actC (dueL s (waitL (l.take (i + 1)) (g.take (i + 1)))) := by rw [hn, dueL, dueL, List.filter_append, rows_append]; simp [hc, rows]
        have e2 : goneL s (l.take i) (g.take i) ++ [true] = goneL s (l.take (i + 1)) (g.take (i + 1)) := by rw [hgn]; simp [hc]
        rw [e1, e2] at h
        refine x_keep [0, 1, 5, 6] rfl (ih _ _ _ (by omega) ⟨i + 1, _, rfl, by omega, rfl, ?_⟩)
        exact h.sub (.cons (by repeat first | exact .here | apply Has.there) (.cons (by repeat first | exact .here | apply Has.there) (.cons (by repeat first | exact .here | apply Has.there) (.cons (by repeat first | exact .here | apply Has.there) (by repeat first | exact .refl _ | apply Sub.skip)))))
      · have e1 : dueL s (waitL (l.take i) (g.take i)) = dueL s (waitL (l.take (i + 1)) (g.take (i + 1))) := by rw [hn, dueL, dueL, List.filter_append]; simp [hc]
        have e2 : goneL s (l.take i) (g.take i) ++ g.drop i = goneL s (l.take (i + 1)) (g.take (i + 1)) ++ g.drop (i + 1) := by rw [hgn, hdr]; simp [hc]
        rw [e1, e2] at h
        exact x_keep [0, 1, 5, 6] rfl (ih _ _ _ (by omega) ⟨i + 1, _, rfl, by omega, rfl, h⟩)
    · repeat' (first | (refine gO ?_; first | refine p_skip rfl ?_ | refine p_val rfl (gives_pure rfl) ?_ | (refine gB .add ?_; first | refine p_val rfl (g_add_i rfl rfl (by omega) (by omega)) ?_ | refine p_val rfl (g_add_u rfl rfl (by omega) (by omega)) ?_) | (refine gB _ ?_; first | refine p_cmp_t rfl rfl rfl rfl (by first | exact rfl | (simp only [cmpProp]; omega) | decide) ?_ | refine p_cmp_f rfl rfl rfl rfl (by first | exact rfl | (simp only [cmpProp]; omega) | decide) ?_ | (refine p_cmp rfl rfl rfl rfl (fun hc => ?_) (fun hc => ?_) <;> simp only [cmpProp] at hc)) | (refine gL ?_; first | refine p_val rfl (g_ld rfl (h.cell (by repeat first | exact .here | apply Has.there) (by exact rfl))) ?_ | refine p_val rfl (g_lda rfl rfl (h.at (by repeat first | exact .here | apply Has.there))) ?_) | refine p_val rfl (g_idx rfl rfl (by omega) (by omega)) ?_) | refine x_nil ?_ | (refine gX ?_; first | refine x_seq ?_ | refine x_ops ?_ | refine x_cond_t rfl ?_ | refine x_cond_f rfl ?_ | refine x_block ?_ | refine x_skip ?_ | refine x_exit rfl ?_) | refine x_blk ?_)
      have e1 : dueL s (waitL (l.take i) (g.take i)) = dueL s (waitL (l.take (i + 1)) (g.take (i + 1))) := by rw [hn]; simp
      have e2 : goneL s (l.take i) (g.take i) ++ g.drop i = goneL s (l.take (i + 1)) (g.take (i + 1)) ++ g.drop (i + 1) := by rw [hgn, hdr]; simp
      rw [e1, e2] at h
      exact x_keep [0, 1, 5, 6] rfl (ih _ _ _ (by omega) ⟨i + 1, _, rfl, by omega, rfl, h⟩)
  · obtain rfl : i = l.length := by omega
    rw [List.take_length, List.take_of_length_le (by omega), List.drop_eq_nil_of_le (by omega), List.append_nil] at h
    repeat' (first | (refine gO ?_; first | refine p_skip rfl ?_ | refine p_val rfl (gives_pure rfl) ?_ | (refine gB .add ?_; first | refine p_val rfl (g_add_i rfl rfl (by omega) (by omega)) ?_ | refine p_val rfl (g_add_u rfl rfl (by omega) (by omega)) ?_) | (refine gB _ ?_; first | refine p_cmp_t rfl rfl rfl rfl (by first | exact rfl | (simp only [cmpProp]; omega) | decide) ?_ | refine p_cmp_f rfl rfl rfl rfl (by first | exact rfl | (simp only [cmpProp]; omega) | decide) ?_ | (refine p_cmp rfl rfl rfl rfl (fun hc => ?_) (fun hc => ?_) <;> simp only [cmpProp] at hc)) | (refine gL ?_; first | refine p_val rfl (g_ld rfl (h.cell (by repeat first | exact .here | apply Has.there) (by exact rfl))) ?_ | refine p_val rfl (g_lda rfl rfl (h.at (by repeat first | exact .here | apply Has.there))) ?_) | refine p_val rfl (g_idx rfl rfl (by omega) (by omega)) ?_) | refine x_nil ?_ | (refine gX ?_; first | refine x_seq ?_ | refine x_ops ?_ | refine x_cond_t rfl ?_ | refine x_cond_f rfl ?_ | refine x_block ?_ | refine x_skip ?_ | refine x_exit rfl ?_) | refine x_blk ?_)
    refine x_ret' is_ref07_List_Ready rfl ?_
    have e := goneL_length s l g (by omega)
    exact (isRef7_shut (l := l) (g := goneL s l g) h (by repeat first | exact .here | apply Has.there) (.there .here) (by repeat first | exact .here | apply Has.there)).sub (.cons (by repeat first | exact .here | apply Has.there) (.cons .here (by repeat first | exact .refl _ | apply Sub.skip)))

theorem ref07_Same_spec {v u : Value} (l m : List ActM) (hr1 : ∀ w, Sat S w G → RdS w 3 v (rows actC l)) (hr2 : ∀ w, Sat S w G → RdS w 3 u (rows actC m)) (hl : l.length ≤ 1000000) (h : Sat S w G) :
    Ret Try.prog F.ref07_Same #[v, u] w (fun v w' => BoolIs v (l = m) ∧ Sat S w' G) := by
  obtain ⟨a1, len1, cap1, rfl, _⟩ := hr1 w h
  obtain ⟨a2, len2, cap2, rfl, _⟩ := hr2 w h
  have e1 := (hr1 w h).rlen actC_len (by decide)
  have e2 := (hr2 w h).rlen actC_len (by decide)
  refine ret_of is_ref07_Same rfl ?_
  repeat' (first | (refine gO ?_; first | refine p_skip rfl ?_ | refine p_val rfl (gives_pure rfl) ?_ | (refine gB .add ?_; first | refine p_val rfl (g_add_i rfl rfl (by omega) (by omega)) ?_ | refine p_val rfl (g_add_u rfl rfl (by omega) (by omega)) ?_) | (refine gB _ ?_; first | refine p_cmp_t rfl rfl rfl rfl (by first | exact rfl | (simp only [cmpProp]; omega) | decide) ?_ | refine p_cmp_f rfl rfl rfl rfl (by first | exact rfl | (simp only [cmpProp]; omega) | decide) ?_ | (refine p_cmp rfl rfl rfl rfl (fun hc => ?_) (fun hc => ?_) <;> simp only [cmpProp] at hc)) | refine p_eqa rfl rfl rfl rfl rfl rfl (fun hc => ?_) (fun hc => ?_) | (refine gL ?_; first | refine p_val rfl (g_ld rfl (h.cell (by repeat first | exact .here | apply Has.there) (by exact rfl))) ?_ | refine p_val rfl (g_lda rfl rfl (h.at (by repeat first | exact .here | apply Has.there))) ?_) | refine p_val rfl (g_idx rfl rfl (by omega) (by omega)) ?_) | refine x_nil ?_ | (refine gD ?_; first | refine r_skip rfl rfl rfl ?_ | refine r_pure rfl rfl rfl (fun _ => gives_pure rfl) ?_ | (refine gR .add ?_; first | refine r_pure rfl rfl rfl (fun _ => g_add_i rfl rfl (by omega) (by omega)) ?_ | refine r_pure rfl rfl rfl (fun _ => g_add_u rfl rfl (by omega) (by omega)) ?_) | (refine gR _ ?_; first | refine r_cmp_t rfl rfl rfl rfl rfl (by first | exact rfl | (simp only [cmpProp]; omega) | decide) ?_ | refine r_cmp_f rfl rfl rfl rfl rfl (by first | exact rfl | (simp only [cmpProp]; omega) | decide) ?_ | (refine r_cmp rfl rfl rfl rfl rfl (fun hc => ?_) (fun hc => ?_) <;> simp only [cmpProp] at hc)) | refine r_eqa rfl rfl rfl rfl rfl rfl rfl (fun hc => ?_) (fun hc => ?_) | (refine gLR ?_; first | refine r_ld rfl rfl rfl (h.cell (by repeat first | exact .here | apply Has.there) (by exact rfl)) ?_ | refine r_lda rfl rfl rfl rfl (h.at (by repeat first | exact .here | apply Has.there)) ?_) | refine r_pure rfl rfl rfl (fun _ => g_idx rfl rfl (by omega) (by omega)) ?_) | refine r_done rfl ?_ | (refine gX ?_; first | refine x_seq ?_ | refine x_ops ?_ | refine x_cond_t rfl ?_ | refine x_cond_f rfl ?_ | refine x_block ?_ | refine x_skip ?_ | refine x_exit rfl ?_ | (refine x_drawn rfl ?_; have h := h.drew) | refine x_drawn rfl ?_) | refine x_blk ?_)
  · refine x_ret' is_ref07_Same rfl ⟨.f (fun he => ?_), h⟩
    rw [he] at e1
    omega
  · obtain rfl : len1 = len2 := by omega
    refine x_keep [0, 1, 5] rfl ?_
    refine x_loop_inv (fun lm le w => ∃ (i : Nat), lm = len1 - i ∧ i ≤ len1 ∧ l.take i = m.take i ∧ le = [(0, .slice a1 len1 cap1), (1, .slice a2 len1 cap2), (5, .int .i64 i)] ∧ Sat S w (G)) (len1) ⟨0, rfl, by omega, rfl, rfl, h⟩ ?_
    clear h
    rintro lm le w ⟨i, rfl, hi0, hi1, rfl, h⟩ ih
    by_cases h1 : i < len1
    · obtain ⟨x, hx⟩ := has_elem (show i < l.length by omega)
      obtain ⟨y, hy⟩ := has_elem (show i < m.length by omega)
      obtain ⟨b1, o1, rfl⟩ := (hr1 w h).addr (by omega)
      obtain ⟨b2, o2, rfl⟩ := (hr2 w h).addr (by omega)
      repeat' (first | (refine r_own rfl rfl rfl h (fun w h => g_ldE (i := i) actC_len rfl (hr1 w h) hx (by omega)) ?_) | (refine r_own rfl rfl rfl h (fun w h => g_ldE (i := i) actC_len rfl (hr2 w h) hy (by omega)) ?_) | (refine gO ?_; first | refine p_skip rfl ?_ | refine p_val rfl (gives_pure rfl) ?_ | (refine gB .add ?_; first | refine p_val rfl (g_add_i rfl rfl (by omega) (by omega)) ?_ | refine p_val rfl (g_add_u rfl rfl (by omega) (by omega)) ?_) | (refine gB _ ?_; first | refine p_cmp_t rfl rfl rfl rfl (by first | exact rfl | (simp only [cmpProp]; omega) | decide) ?_ | refine p_cmp_f rfl rfl rfl rfl (by first | exact rfl | (simp only [cmpProp]; omega) | decide) ?_ | (refine p_cmp rfl rfl rfl rfl (fun hc => ?_) (fun hc => ?_) <;> simp only [cmpProp] at hc)) | refine p_eqa rfl rfl rfl rfl rfl rfl (fun hc => ?_) (fun hc => ?_) | (refine gL ?_; first | refine p_val rfl (g_ld rfl (h.cell (by repeat first | exact .here | apply Has.there) (by exact rfl))) ?_ | refine p_val rfl (g_lda rfl rfl (h.at (by repeat first | exact .here | apply Has.there))) ?_) | refine p_val rfl (g_idx rfl rfl (by omega) (by omega)) ?_) | refine x_nil ?_ | (refine gD ?_; first | refine r_skip rfl rfl rfl ?_ | refine r_pure rfl rfl rfl (fun _ => gives_pure rfl) ?_ | (refine gR .add ?_; first | refine r_pure rfl rfl rfl (fun _ => g_add_i rfl rfl (by omega) (by omega)) ?_ | refine r_pure rfl rfl rfl (fun _ => g_add_u rfl rfl (by omega) (by omega)) ?_) | (refine gR _ ?_; first | refine r_cmp_t rfl rfl rfl rfl rfl (by first | exact rfl | (simp only [cmpProp]; omega) | decide) ?_ | refine r_cmp_f rfl rfl rfl rfl rfl (by first | exact rfl | (simp only [cmpProp]; omega) | decide) ?_ | (refine r_cmp rfl rfl rfl rfl rfl (fun hc => ?_) (fun hc => ?_) <;> simp only [cmpProp] at hc)) | refine r_eqa rfl rfl rfl rfl rfl rfl rfl (fun hc => ?_) (fun hc => ?_) | (refine gLR ?_; first | refine r_ld rfl rfl rfl (h.cell (by repeat first | exact .here | apply Has.there) (by exact rfl)) ?_ | refine r_lda rfl rfl rfl rfl (h.at (by repeat first | exact .here | apply Has.there)) ?_) | refine r_pure rfl rfl rfl (fun _ => g_idx rfl rfl (by omega) (by omega)) ?_) | refine r_done rfl ?_ | (refine gX ?_; first | refine x_seq ?_ | refine x_ops ?_ | refine x_cond_t rfl ?_ | refine x_cond_f rfl ?_ | refine x_block ?_ | refine x_skip ?_ | refine x_exit rfl ?_ | (refine x_drawn rfl ?_; have h := h.drew) | refine x_drawn rfl ?_) | refine x_blk ?_)
      · have hxy : x = y := by cases x; cases y; simp_all
        refine x_keep [0, 1, 5] rfl (ih _ _ _ (by omega) ⟨i + 1, rfl, by omega, by rw [take_next hx, take_next hy, hi1, hxy], rfl, h⟩)
      · refine x_ret' is_ref07_Same rfl ⟨.f (fun he => hc ?_), h⟩
        subst he
        rw [hx] at hy
        injection hy with hy
        subst hy
        exact ⟨rfl, rfl, rfl, trivial⟩
    · obtain rfl : i = len1 := by omega
      rw [List.take_of_length_le (by omega), List.take_of_length_le (by omega)] at hi1
      repeat' (first | (refine gO ?_; first | refine p_skip rfl ?_ | refine p_val rfl (gives_pure rfl) ?_ | (refine gB .add ?_; first | refine p_val rfl (g_add_i rfl rfl (by omega) (by omega)) ?_ | refine p_val rfl (g_add_u rfl rfl (by omega) (by omega)) ?_) | (refine gB _ ?_; first | refine p_cmp_t rfl rfl rfl rfl (by first | exact rfl | (simp only [cmpProp]; omega) | decide) ?_ | refine p_cmp_f rfl rfl rfl rfl (by first | exact rfl | (simp only [cmpProp]; omega) | decide) ?_ | (refine p_cmp rfl rfl rfl rfl (fun hc => ?_) (fun hc => ?_) <;> simp only [cmpProp] at hc)) | refine p_eqa rfl rfl rfl rfl rfl rfl (fun hc => ?_) (fun hc => ?_) | (refine gL ?_; first | refine p_val rfl (g_ld rfl (h.cell (by repeat first | exact .here | apply Has.there) (by exact rfl))) ?_ | refine p_val rfl (g_lda rfl rfl (h.at (by repeat first | exact .here | apply Has.there))) ?_) | refine p_val rfl (g_idx rfl rfl (by omega) (by omega)) ?_) | refine x_nil ?_ | (refine gD ?_; first | refine r_skip rfl rfl rfl ?_ | refine r_pure rfl rfl rfl (fun _ => gives_pure rfl) ?_ | (refine gR .add ?_; first | refine r_pure rfl rfl rfl (fun _ => g_add_i rfl rfl (by omega) (by omega)) ?_ | refine r_pure rfl rfl rfl (fun _ => g_add_u rfl rfl (by omega) (by omega)) ?_) | (refine gR _ ?_; first | refine r_cmp_t rfl rfl rfl rfl rfl (by first | exact rfl | (simp only [cmpProp]; omega) | decide) ?_ | refine r_cmp_f rfl rfl rfl rfl rfl (by first | exact rfl | (simp only [cmpProp]; omega) | decide) ?_ | (refine r_cmp rfl rfl rfl rfl rfl (fun hc => ?_) (fun hc => ?_) <;> simp only [cmpProp] at hc)) | refine r_eqa rfl rfl rfl rfl rfl rfl rfl (fun hc => ?_) (fun hc => ?_) | (refine gLR ?_; first | refine r_ld rfl rfl rfl (h.cell (by repeat first | exact .here | apply Has.there) (by exact rfl)) ?_ | refine r_lda rfl rfl rfl rfl (h.at (by repeat first | exact .here | apply Has.there)) ?_) | refine r_pure rfl rfl rfl (fun _ => g_idx rfl rfl (by omega) (by omega)) ?_) | refine r_done rfl ?_ | (refine gX ?_; first | refine x_seq ?_ | refine x_ops ?_ | refine x_cond_t rfl ?_ | refine x_cond_f rfl ?_ | refine x_block ?_ | refine x_skip ?_ | refine x_exit rfl ?_ | (refine x_drawn rfl ?_; have h := h.drew) | refine x_drawn rfl ?_) | refine x_blk ?_)
      exact x_ret' is_ref07_Same rfl ⟨.t hi1, h⟩
end
end Go.Proofs.Ytjlpjhbmfakpjaa
