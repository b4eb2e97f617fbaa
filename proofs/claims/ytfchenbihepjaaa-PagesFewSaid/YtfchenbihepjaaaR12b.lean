/- Layer 12 (pages): the document's pages are opened. -/
import Derived.Test.YtfchenbihepjaaaHxS
import Derived.Test.YtfchenbihepjaaaR12
namespace Go.Proofs.Ytfchenbihepjaaa
open Go Go.HX
attribute [local irreducible] Ret XRun XOps XDr XOne Does Gives
set_option maxRecDepth 4000
set_option maxHeartbeats 1000000
theorem stC0_R12b {goal next : Prop} (k : next) (hs : Hid next → goal := by (intro k; (first | (refine gC F.ref12_Buffer_At ?_; refine p_call rfl rfl (ref12_Buffer_At_spec _ ?_ (h.rf2)) ?_; iterate 1 (first | assumption | omega | (simp only []; omega) | decide)) | (refine gC F.ref02_Size ?_; refine p_call rfl rfl (ref02_Size_spec _ h) ?_) | (refine gS ?_; (first | refine p_do rfl (d_stwL rfl rfl rfl rfl rfl (h.pick (by repeat first | exact .here | apply Has.there)) (by first | (dsimp only [Value.cells]; done) | exact rfl)) ?_ | refine p_do rfl (d_stL rfl rfl rfl (h.pick (by repeat first | exact .here | apply Has.there)) (by first | exact of_decide_eq_true rfl | simp) (by first | (dsimp only [List.set]; done) | exact rfl)) ?_)) | fail); exact k.out)) : goal := hs ⟨k⟩
theorem stC1_R12b {goal next : Prop} (k : next) (hs : Hid next → goal := by (intro k; (first | (refine gN ?_; refine p_do rfl (d_newL h (by first | (dsimp only [Value.cells]; done) | exact rfl)) ?_) | fail); exact k.out)) : goal := hs ⟨k⟩
/-- One is put where it belongs. -/
def insO : List OneM → OneM → List OneM
  | [], x => [x]
  | o :: os, x => if x.page < o.page then x :: o :: os else o :: insO os x
theorem insO_none : ∀ {os : List OneM} {x : OneM}, (∀ o ∈ os, ¬ x.page < o.page) → insO os x = os ++ [x]
  | [], _, _ => rfl
  | o :: os, x, h => by
    unfold insO
    rw [if_neg (h o (List.mem_cons_self ..)), insO_none (fun y hy => h y (List.mem_cons_of_mem _ hy))]
    rfl
theorem insO_app : ∀ {os : List OneM} {x : OneM} {m : List OneM}, (∃ o ∈ os, x.page < o.page) → insO (os ++ m) x = insO os x ++ m
  | [], x, m, ⟨o, ho, _⟩ => by cases ho
  | y :: os, x, m, h => by
    show insO (y :: (os ++ m)) x = insO (y :: os) x ++ m
    unfold insO
    by_cases hy : x.page < y.page
    · rw [if_pos hy, if_pos hy]; rfl
    · rw [if_neg hy, if_neg hy, insO_app (by
        obtain ⟨o, ho, hp⟩ := h
        rcases List.mem_cons.1 ho with rfl | ho
        · exact absurd hp hy
        · exact ⟨o, ho, hp⟩)]
      rfl
theorem insO_last : ∀ {os : List OneM} {x y : OneM}, (∀ o ∈ os, ¬ x.page < o.page) → x.page < y.page → insO (os ++ [y]) x = os ++ [x] ++ [y]
  | [], x, y, _, h => by
    show insO [y] x = [x, y]
    unfold insO
    rw [if_pos h]
  | o :: os, x, y, hn, h => by
    show insO (o :: (os ++ [y])) x = o :: (os ++ [x] ++ [y])
    unfold insO
    rw [if_neg (hn o (List.mem_cons_self ..)), insO_last (fun z hz => hn z (List.mem_cons_of_mem _ hz)) h]
theorem insO_length : ∀ (os : List OneM) (x : OneM), (insO os x).length = os.length + 1
  | [], _ => rfl
  | o :: os, x => by
    unfold insO
    split
    · rfl
    · simp [insO_length os x]
/-- After i of the list. -/
def PutO (os : List OneM) (x : OneM) (i : Nat) (put : Bool) (out : List OneM) : Prop := (put = true ∧ (∃ o ∈ os.take i, x.page < o.page) ∧ out = insO (os.take i) x) ∨ (put = false ∧ (∀ o ∈ os.take i, ¬ x.page < o.page) ∧ out = os.take i)
theorem putO_len {os : List OneM} {x : OneM} {i : Nat} {put : Bool} {out : List OneM} (h : PutO os x i put out) : out.length ≤ i + 1 := by
  rcases h with ⟨_, _, rfl⟩ | ⟨_, _, rfl⟩
  · rw [insO_length, List.length_take]; omega
  · rw [List.length_take]; omega
theorem putO_put {os : List OneM} {x y : OneM} {i : Nat} {out : List OneM} (h : PutO os x i false out) (hy : os[i]? = some y) (hp : x.page < y.page) : PutO os x (i + 1) true (out ++ [x] ++ [y]) := by
  rcases h with ⟨h, _⟩ | ⟨_, hn, rfl⟩
  · cases h
  · left
    rw [take_next hy]
    exact ⟨rfl, ⟨y, by simp, hp⟩, (insO_last hn hp).symm⟩
theorem putO_skip {os : List OneM} {x y : OneM} {i : Nat} {put : Bool} {out : List OneM} (h : PutO os x i put out) (hy : os[i]? = some y) (hp : put = true ∨ ¬ x.page < y.page) : PutO os x (i + 1) put (out ++ [y]) := by
  rcases h with ⟨rfl, hn, rfl⟩ | ⟨rfl, hn, rfl⟩
  · left
    rw [take_next hy]
    obtain ⟨o, ho, hop⟩ := hn
    exact ⟨rfl, ⟨o, List.mem_append_left _ ho, hop⟩, (insO_app ⟨o, ho, hop⟩).symm⟩
  · right
    rw [take_next hy]
    have hp := hp.resolve_left (by decide)
    refine ⟨rfl, fun o ho => ?_, rfl⟩
    rcases List.mem_append.1 ho with ho | ho
    · exact hn o ho
    · rw [List.mem_singleton.1 ho]; exact hp
section
variable {S : SP} {w : World} {G : List HProp}

theorem bigH_ins : ∀ {os : List OneM} {x : OneM} {G : List HProp}, Sat S w (oneH x :: bigH oneH os :: G) → Sat S w (bigH oneH (insO os x) :: G)
  | [], x, G, h => Sat_sep.2 h
  | o :: os, x, G, h => by
    unfold insO
    split
    · exact Sat_sep.2 h
    · have h1 : Sat S w (bigH oneH (o :: os) :: oneH x :: G) := h.pick (.there .here)
      have h2 : Sat S w (oneH o :: bigH oneH os :: oneH x :: G) := Sat_sep.1 h1
      have h3 : Sat S w (oneH x :: bigH oneH os :: oneH o :: G) := h2.sub (.cons (.there (.there .here)) (.cons (.there .here) (.cons .here (.refl _))))
      have h4 : Sat S w (oneH o :: bigH oneH (insO os x) :: G) := (bigH_ins h3).pick (.there .here)
      exact Sat_sep.2 h4

set_option maxHeartbeats 16000000 in
theorem ref12_Buffer_Open_spec {mb sz : Nat} {bits fr : Int} {lv : Value} {os : List OneM} (p : Int) (p0 : 0 ≤ p) (p1 : p ≤ 9223372036854775807) (hf : 2 ≤ fr ∧ fr ≤ 8) (hsz : sizeZ bits = sz) (hs2 : sz ≤ 512) (hl : os.length ≤ 8) (ho : ∀ o ∈ os, 0 ≤ o.page ∧ o.page % fr ≠ p % fr) (h : Sat S w (pt mb (.cells #[.int .i64 bits, .int .i64 fr, lv] T.haycroftref12_Buffer (0, 0)) :: ownS T.haycroftref12_One 2 lv (rows oneC (os)) :: G)) :
    Ret Try.prog F.ref12_Buffer_Open #[.pointer (some ⟨mb, 0, none⟩), .int .i64 p] w (fun v w' => v = .int .i64 0 ∧ ∃ lv u1 u2 u3, Sat S w' (pt mb (.cells #[.int .i64 bits, .int .i64 fr, lv] T.haycroftref12_Buffer (0, 0)) :: ownS T.haycroftref12_One 2 lv (rows oneC (insO os ⟨p, u1, u2, u3, List.replicate sz 0⟩)) :: oneH ⟨p, u1, u2, u3, List.replicate sz 0⟩ :: G)) := by
  obtain ⟨va, vl, vc, rfl, hvl, _⟩ := ownS_slice h (.there .here)
  rw [rows_length oneC_len] at hvl
  have hat : atZ os p = -1 := by
    unfold atZ
    rw [at_none (fun o hoo he => (ho o hoo).2 (by rw [he]))]
  refine ret_of is_ref12_Buffer_Open rfl ?_
  repeat' (first | (refine gC F.ref12_Buffer_At ?_; refine p_call rfl rfl (ref12_Buffer_At_spec p (by omega) (h.rf2)) ?_; rw [hat]; rintro _ w ⟨rfl, h⟩) | refine stP ?_ | (refine stC0_R12b ?_; rintro _ w ⟨rfl, h⟩) | (refine stC1_R12b ?_; rintro _ w ⟨bx, rfl, h⟩) | (refine p_cmp rfl rfl rfl rfl (fun hc => ?_) (fun hc => ?_) <;> simp only [cmpProp] at hc) | (refine r_cmp rfl rfl rfl rfl rfl (fun hc => ?_) (fun hc => ?_) <;> simp only [cmpProp] at hc) | (refine x_drawn rfl ?_; have h := h.drew) | refine x_drawn rfl ?_ | fail)
  refine x_keep [0, 1, 5] rfl ?_
  refine x_loop_inv (fun lm le w => ∃ (i : Nat), lm = vl - i ∧ i ≤ vl ∧ le = [(0, .pointer (some ⟨mb, 0, none⟩)), (1, .int .i64 p), (5, .int .i64 i)] ∧ Sat S w (pt mb (.cells #[.int .i64 bits, .int .i64 fr, .slice va vl vc] T.haycroftref12_Buffer (0, 0)) :: ownS T.haycroftref12_One 2 (.slice va vl vc) (rows oneC os) :: G)) (vl) ⟨0, rfl, by omega, rfl, h.pm2⟩ ?_
  clear h
  rintro lm le w ⟨i, rfl, hi0, rfl, h⟩ ih
  by_cases hi : i < vl
  · obtain ⟨o, hoi⟩ := has_elem (show i < os.length by omega)
    obtain ⟨vo, rfl⟩ := ownS_addr (E := T.haycroftref12_One) h (.there .here) (by omega)
    obtain ⟨ho1, ho2⟩ := ho o (List.mem_of_getElem? hoi)
    repeat' (first | (refine gLR ?_; refine r_own rfl rfl rfl h (fun w h => g_ldF (i := i) (f := 0) oneC_len rfl (ownS_rd h (by repeat first | exact .here | apply Has.there)) hoi rfl (by omega)) ?_) | (refine gR .rem ?_; refine r_pure rfl rfl rfl (fun _ => g_rem_i rfl rfl (by omega) (by omega)) ?_) | refine stP ?_ | (refine stC0_R12b ?_; rintro _ w ⟨rfl, h⟩) | (refine stC1_R12b ?_; rintro _ w ⟨bx, rfl, h⟩) | (refine p_cmp rfl rfl rfl rfl (fun hc => ?_) (fun hc => ?_) <;> simp only [cmpProp] at hc) | (refine r_cmp rfl rfl rfl rfl rfl (fun hc => ?_) (fun hc => ?_) <;> simp only [cmpProp] at hc) | (refine x_drawn rfl ?_; have h := h.drew) | refine x_drawn rfl ?_ | fail)
    exact x_keep [0, 1, 5] rfl (ih _ _ _ (by omega) ⟨i + 1, rfl, by omega, rfl, h.pm2⟩)
  repeat' (first | refine stPs ?_ | (refine stC0_R12b ?_; rintro _ w ⟨rfl, h⟩) | (refine stC1_R12b ?_; rintro _ w ⟨bx, rfl, h⟩) | (refine p_cmp rfl rfl rfl rfl (fun hc => ?_) (fun hc => ?_) <;> simp only [cmpProp] at hc) | (refine r_cmp rfl rfl rfl rfl rfl (fun hc => ?_) (fun hc => ?_) <;> simp only [cmpProp] at hc) | (refine x_drawn rfl ?_; have h := h.drew) | refine x_drawn rfl ?_ | fail)
  refine p_lit [] rfl rfl rfl rfl rfl rfl h (fun v w h => ?_)
  obtain ⟨v1, v2, v3, rfl, _, _⟩ := ownS_slice h .here
  repeat' (first | (refine gC F.ref02_Size ?_; refine p_call rfl rfl (ref02_Size_spec _ h) ?_; rintro _ w ⟨rfl, h⟩; rw [hsz]) | (refine p_do rfl (d_mkN (kd := .u64) (sz := 1) (n := sz) rfl rfl (by decide) (by omega) (by omega) h) ?_; intro u w h; obtain ⟨u1, u2, u3, rfl, _, _⟩ := ownS_slice h .here) | refine stP ?_ | (refine stC0_R12b ?_; rintro _ w ⟨rfl, h⟩) | (refine stC1_R12b ?_; rintro _ w ⟨bx, rfl, h⟩) | (refine p_cmp rfl rfl rfl rfl (fun hc => ?_) (fun hc => ?_) <;> simp only [cmpProp] at hc) | (refine r_cmp rfl rfl rfl rfl rfl (fun hc => ?_) (fun hc => ?_) <;> simp only [cmpProp] at hc) | (refine x_drawn rfl ?_; have h := h.drew) | refine x_drawn rfl ?_ | fail)
  obtain ⟨x, hx⟩ : ∃ x : OneM, x = ⟨p, u1, u2, u3, List.replicate sz 0⟩ := ⟨_, rfl⟩
  rw [Nat.mul_one] at h
  have hput : PutO os x 0 false [] := .inr ⟨rfl, fun o ho => by simp at ho, rfl⟩
  obtain ⟨q, rfl⟩ : ∃ q, q = bx := ⟨bx, rfl⟩
  have h : Sat S w (ownS T.haycroftref12_One 2 (.slice v1 v2 v3) (rows oneC []) :: pt q (.cells #[.int .i64 p, .slice u1 u2 u3] T.haycroftref12_One (0, 0)) :: pt mb (.cells #[.int .i64 bits, .int .i64 fr, .slice va vl vc] T.haycroftref12_Buffer (0, 0)) :: ownS T.haycroftref12_One 2 (.slice va vl vc) (rows oneC os) :: ownS T.uint64 1 (.slice u1 u2 u3) (ints .u64 (List.replicate sz 0)) :: G) := h.pm5
  refine x_keep [0, 1, 6, 7, 8, 9] rfl ?_
  refine x_loop_inv (fun lm le w => ∃ (i : Nat), ∃ (out : List OneM), ∃ (put : Bool), ∃ (vo : Value), lm = vl - i ∧ i ≤ vl ∧ PutO os x i put out ∧ le = [(0, .pointer (some ⟨mb, 0, none⟩)), (1, .int .i64 p), (6, vo), (7, .bool put), (8, .pointer (some ⟨q, 0, none⟩)), (9, .int .i64 i)] ∧ Sat S w (ownS T.haycroftref12_One 2 vo (rows oneC out) :: pt q (.cells #[.int .i64 p, .slice u1 u2 u3] T.haycroftref12_One (0, 0)) :: pt mb (.cells #[.int .i64 bits, .int .i64 fr, .slice va vl vc] T.haycroftref12_Buffer (0, 0)) :: ownS T.haycroftref12_One 2 (.slice va vl vc) (rows oneC os) :: ownS T.uint64 1 (.slice u1 u2 u3) (ints .u64 (List.replicate sz 0)) :: G)) (vl) ⟨0, [], false, _, rfl, by omega, hput, rfl, h⟩ ?_
  clear h
  rintro lm le w ⟨i, out, put, vo, rfl, hi0, hi1, rfl, h⟩ ih
  obtain ⟨w1, w2, w3, rfl, _, _⟩ := ownS_slice h .here
  have hol := putO_len hi1
  by_cases hi : i < vl
  · obtain ⟨y, hyi⟩ := has_elem (show i < os.length by omega)
    obtain ⟨vo2, rfl⟩ := ownS_addr (E := T.haycroftref12_One) h (.there (.there (.there .here))) (by omega)
    cases put
    · by_cases hp : p < y.page
      · repeat' (first | (refine gL ?_; first | (refine p_val rfl (g_ldF (i := i) (f := 0) oneC_len rfl (ownS_rd h (by repeat first | exact .here | apply Has.there)) hyi rfl (by omega)) ?_) | (refine p_val rfl (g_ldE (i := i) oneC_len rfl (ownS_rd h (by repeat first | exact .here | apply Has.there)) hyi (by omega)) ?_)) | (refine p_do rfl (d_lit (oneC ⟨p, u1, u2, u3, List.replicate sz 0⟩) rfl rfl rfl rfl rfl h) ?_; rw [← hx]; intro v9 w h) | (refine p_do rfl (d_lit (oneC y) rfl rfl rfl rfl rfl h) ?_; intro v9 w h) | (refine p_do rfl (d_appR rfl rfl rfl (by decide) (h.pick (.there .here)) (ownS_rd h .here) (oneC_one _) (by simp [rows_length oneC_len, oneC]; omega) (by simp [rows_length oneC_len, oneC]; omega)) ?_; intro v8 w h; rw [← rows_one (enc := oneC), ← rows_append] at h; obtain ⟨_, _, _, rfl, _, _⟩ := ownS_slice h .here) | refine stP ?_ | (refine stC0_R12b ?_; rintro _ w ⟨rfl, h⟩) | (refine stC1_R12b ?_; rintro _ w ⟨bx, rfl, h⟩) | (refine p_cmp rfl rfl rfl rfl (fun hc => ?_) (fun hc => ?_) <;> simp only [cmpProp] at hc) | (refine r_cmp rfl rfl rfl rfl rfl (fun hc => ?_) (fun hc => ?_) <;> simp only [cmpProp] at hc) | (refine x_drawn rfl ?_; have h := h.drew) | refine x_drawn rfl ?_ | fail)
        exact x_keep [0, 1, 6, 7, 8, 9] rfl (ih _ _ _ (by omega) ⟨i + 1, _, _, _, rfl, by omega, putO_put hi1 hyi (by rw [hx]; exact hp), rfl, h.pm5⟩)
      · repeat' (first | (refine gL ?_; first | (refine p_val rfl (g_ldF (i := i) (f := 0) oneC_len rfl (ownS_rd h (by repeat first | exact .here | apply Has.there)) hyi rfl (by omega)) ?_) | (refine p_val rfl (g_ldE (i := i) oneC_len rfl (ownS_rd h (by repeat first | exact .here | apply Has.there)) hyi (by omega)) ?_)) | (refine p_do rfl (d_lit (oneC y) rfl rfl rfl rfl rfl h) ?_; intro v9 w h) | (refine p_do rfl (d_appR rfl rfl rfl (by decide) (h.pick (.there .here)) (ownS_rd h .here) (oneC_one _) (by simp [rows_length oneC_len, oneC]; omega) (by simp [rows_length oneC_len, oneC]; omega)) ?_; intro v8 w h; rw [← rows_one (enc := oneC), ← rows_append] at h; obtain ⟨_, _, _, rfl, _, _⟩ := ownS_slice h .here) | refine stP ?_ | (refine stC0_R12b ?_; rintro _ w ⟨rfl, h⟩) | (refine stC1_R12b ?_; rintro _ w ⟨bx, rfl, h⟩) | (refine p_cmp rfl rfl rfl rfl (fun hc => ?_) (fun hc => ?_) <;> simp only [cmpProp] at hc) | (refine r_cmp rfl rfl rfl rfl rfl (fun hc => ?_) (fun hc => ?_) <;> simp only [cmpProp] at hc) | (refine x_drawn rfl ?_; have h := h.drew) | refine x_drawn rfl ?_ | fail)
        exact x_keep [0, 1, 6, 7, 8, 9] rfl (ih _ _ _ (by omega) ⟨i + 1, _, _, _, rfl, by omega, putO_skip hi1 hyi (.inr (by rw [hx]; exact hp)), rfl, h.pm5⟩)
    · repeat' (first | (refine gL ?_; first | (refine p_val rfl (g_ldF (i := i) (f := 0) oneC_len rfl (ownS_rd h (by repeat first | exact .here | apply Has.there)) hyi rfl (by omega)) ?_) | (refine p_val rfl (g_ldE (i := i) oneC_len rfl (ownS_rd h (by repeat first | exact .here | apply Has.there)) hyi (by omega)) ?_)) | (refine p_do rfl (d_lit (oneC y) rfl rfl rfl rfl rfl h) ?_; intro v9 w h) | (refine p_do rfl (d_appR rfl rfl rfl (by decide) (h.pick (.there .here)) (ownS_rd h .here) (oneC_one _) (by simp [rows_length oneC_len, oneC]; omega) (by simp [rows_length oneC_len, oneC]; omega)) ?_; intro v8 w h; rw [← rows_one (enc := oneC), ← rows_append] at h; obtain ⟨_, _, _, rfl, _, _⟩ := ownS_slice h .here) | refine stP ?_ | (refine stC0_R12b ?_; rintro _ w ⟨rfl, h⟩) | (refine stC1_R12b ?_; rintro _ w ⟨bx, rfl, h⟩) | (refine p_cmp rfl rfl rfl rfl (fun hc => ?_) (fun hc => ?_) <;> simp only [cmpProp] at hc) | (refine r_cmp rfl rfl rfl rfl rfl (fun hc => ?_) (fun hc => ?_) <;> simp only [cmpProp] at hc) | (refine x_drawn rfl ?_; have h := h.drew) | refine x_drawn rfl ?_ | fail)
      exact x_keep [0, 1, 6, 7, 8, 9] rfl (ih _ _ _ (by omega) ⟨i + 1, _, _, _, rfl, by omega, putO_skip hi1 hyi (.inl rfl), rfl, h.pm5⟩)
  · obtain rfl : i = vl := by omega
    have htk : os.take i = os := List.take_of_length_le (by omega)
    rcases hi1 with ⟨rfl, _, rfl⟩ | ⟨rfl, hn, rfl⟩
    · rw [htk, hx] at h
      repeat' (first | refine stPs ?_ | (refine stC0_R12b ?_; rintro _ w ⟨rfl, h⟩) | (refine stC1_R12b ?_; rintro _ w ⟨bx, rfl, h⟩) | (refine p_cmp rfl rfl rfl rfl (fun hc => ?_) (fun hc => ?_) <;> simp only [cmpProp] at hc) | (refine r_cmp rfl rfl rfl rfl rfl (fun hc => ?_) (fun hc => ?_) <;> simp only [cmpProp] at hc) | (refine x_drawn rfl ?_; have h := h.drew) | refine x_drawn rfl ?_ | fail)
      exact x_ret' is_ref12_Buffer_Open rfl ⟨rfl, _, u1, u2, u3, h.pm3⟩
    · rw [htk] at hn h hol
      have e := insO_none hn
      repeat' (first | (refine p_do rfl (d_lit (oneC ⟨p, u1, u2, u3, List.replicate sz 0⟩) rfl rfl rfl rfl rfl h) ?_; rw [← hx]; intro v9 w h) | (refine p_do rfl (d_appR rfl rfl rfl (by decide) (h.pick (.there .here)) (ownS_rd h .here) (oneC_one _) (by simp [rows_length oneC_len, oneC]; omega) (by simp [rows_length oneC_len, oneC]; omega)) ?_; intro v8 w h; rw [← rows_one (enc := oneC), ← rows_append] at h; obtain ⟨_, _, _, rfl, _, _⟩ := ownS_slice h .here) | refine stP ?_ | (refine stC0_R12b ?_; rintro _ w ⟨rfl, h⟩) | (refine stC1_R12b ?_; rintro _ w ⟨bx, rfl, h⟩) | (refine p_cmp rfl rfl rfl rfl (fun hc => ?_) (fun hc => ?_) <;> simp only [cmpProp] at hc) | (refine r_cmp rfl rfl rfl rfl rfl (fun hc => ?_) (fun hc => ?_) <;> simp only [cmpProp] at hc) | (refine x_drawn rfl ?_; have h := h.drew) | refine x_drawn rfl ?_ | fail)
      rw [← e, hx] at h
      exact x_ret' is_ref12_Buffer_Open rfl ⟨rfl, _, u1, u2, u3, h.pm3⟩
end
end Go.Proofs.Ytfchenbihepjaaa
