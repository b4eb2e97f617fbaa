/- The reference of layer 29 (meter): waits in their places, measures. -/
import Derived.Test.YtojopmkekimpjaaHxS
import Derived.Test.YtojopmkekimpjaaR29
namespace Go.Proofs.Ytojopmkekimpjaa
open Go Go.HX
attribute [local irreducible] Ret XRun XOps XDr XOne Does Gives
set_option maxRecDepth 4000
set_option maxHeartbeats 1000000
theorem putI_none : ∀ {s : List Int} {z : Int}, (∀ y ∈ s, ¬ z < y) → putI s z = s ++ [z]
  | [], _, _ => rfl
  | a :: s, z, h => by
    unfold putI
    rw [if_neg (h a (List.mem_cons_self ..)), putI_none (fun y hy => h y (List.mem_cons_of_mem _ hy))]
    rfl
theorem putI_app : ∀ {s : List Int} {z : Int} {m : List Int}, (∃ y ∈ s, z < y) → putI (s ++ m) z = putI s z ++ m
  | [], z, m, ⟨y, hy, _⟩ => by cases hy
  | a :: s, z, m, h => by
    show putI (a :: (s ++ m)) z = putI (a :: s) z ++ m
    unfold putI
    by_cases ha : z < a
    · rw [if_pos ha, if_pos ha]; rfl
    · rw [if_neg ha, if_neg ha, putI_app (by
        obtain ⟨y, hy, hp⟩ := h
        rcases List.mem_cons.1 hy with rfl | hy
        · exact absurd hp ha
        · exact ⟨y, hy, hp⟩)]
      rfl
theorem putI_last : ∀ {s : List Int} {z y : Int}, (∀ x ∈ s, ¬ z < x) → z < y → putI (s ++ [y]) z = s ++ [z] ++ [y]
  | [], z, y, _, h => by
    show putI [y] z = [z, y]
    unfold putI
    rw [if_pos h]
  | a :: s, z, y, hn, h => by
    show putI (a :: (s ++ [y])) z = a :: (s ++ [z] ++ [y])
    unfold putI
    rw [if_neg (hn a (List.mem_cons_self ..)), putI_last (fun x hx => hn x (List.mem_cons_of_mem _ hx)) h]
theorem putI_length : ∀ (s : List Int) (z : Int), (putI s z).length = s.length + 1
  | [], _ => rfl
  | a :: s, z => by
    unfold putI
    split
    · rfl
    · simp [putI_length s z]
/-- After i of the list. -/
def PutI (s : List Int) (z : Int) (i : Nat) (put : Bool) (out : List Int) : Prop := (put = true ∧ (∃ y ∈ s.take i, z < y) ∧ out = putI (s.take i) z) ∨ (put = false ∧ (∀ y ∈ s.take i, ¬ z < y) ∧ out = s.take i)
theorem PutI_len {s : List Int} {z : Int} {i : Nat} {put : Bool} {out : List Int} (h : PutI s z i put out) : out.length ≤ i + 1 := by
  rcases h with ⟨_, _, rfl⟩ | ⟨_, _, rfl⟩
  · rw [putI_length, List.length_take]; omega
  · rw [List.length_take]; omega
theorem PutI_put {s : List Int} {z y : Int} {i : Nat} {out : List Int} (h : PutI s z i false out) (hy : s[i]? = some y) (hp : z < y) : PutI s z (i + 1) true (out ++ [z] ++ [y]) := by
  rcases h with ⟨h, _⟩ | ⟨_, hn, rfl⟩
  · cases h
  · left
    rw [take_next hy]
    exact ⟨rfl, ⟨y, by simp, hp⟩, (putI_last hn hp).symm⟩
theorem PutI_skip {s : List Int} {z y : Int} {i : Nat} {put : Bool} {out : List Int} (h : PutI s z i put out) (hy : s[i]? = some y) (hp : put = true ∨ ¬ z < y) : PutI s z (i + 1) put (out ++ [y]) := by
  rcases h with ⟨rfl, hn, rfl⟩ | ⟨rfl, hn, rfl⟩
  · left
    rw [take_next hy]
    obtain ⟨o, ho, hop⟩ := hn
    exact ⟨rfl, ⟨o, List.mem_append_left _ ho, hop⟩, (putI_app ⟨o, ho, hop⟩).symm⟩
  · right
    rw [take_next hy]
    have hp := hp.resolve_left (by decide)
    refine ⟨rfl, fun o ho => ?_, rfl⟩
    rcases List.mem_append.1 ho with ho | ho
    · exact hn o ho
    · rw [List.mem_singleton.1 ho]; exact hp
theorem waits_next {l : List EvM} {i : Nat} {e : EvM} (he : l[i]? = some e) : waitsE (l.take (i + 1)) = waitsE (l.take i) ++ if e.to ≠ 0 then [e.to - e.from_] else [] := by
  rw [take_next he, waits_app, waits_cons]
  show _ ++ (_ ++ []) = _
  rw [List.append_nil]
theorem ints_snoc (kd : IntKind) (l : List Int) (z : Int) : ints kd l ++ [.int kd z] = ints kd (l ++ [z]) := by simp [ints]
section
variable {S : SP} {w : World} {G : List HProp}

set_option maxHeartbeats 8000000 in
theorem ref29_Waits_spec {v : Value} (l : List EvM) (hl : l.length ≤ 1000000) (hm : mayE l) (hr : ∀ w, Sat S w G → RdS w 8 v (rows evC l)) (h : Sat S w G) :
    Ret Try.prog F.ref29_Waits #[v] w (fun u w' => Sat S w' (ownS T.int 1 u (ints .i64 (sortI (waitsE l))) :: G)) := by
  obtain ⟨a, len, cap, rfl, _⟩ := hr w h
  have hlen := (hr w h).rlen evC_len (by decide)
  refine ret_of is_ref29_Waits rfl ?_
  repeat' (first | refine stPs ?_ | (refine p_cmp rfl rfl rfl rfl (fun hc => ?_) (fun hc => ?_) <;> simp only [cmpProp] at hc) | (refine r_cmp rfl rfl rfl rfl rfl (fun hc => ?_) (fun hc => ?_) <;> simp only [cmpProp] at hc) | (refine x_drawn rfl ?_; have h := h.drew) | refine x_drawn rfl ?_ | fail)
  refine p_lit [] rfl rfl rfl rfl rfl rfl h (fun v w h => ?_)
  repeat' (first | refine stPs ?_ | (refine p_cmp rfl rfl rfl rfl (fun hc => ?_) (fun hc => ?_) <;> simp only [cmpProp] at hc) | (refine r_cmp rfl rfl rfl rfl rfl (fun hc => ?_) (fun hc => ?_) <;> simp only [cmpProp] at hc) | (refine x_drawn rfl ?_; have h := h.drew) | refine x_drawn rfl ?_ | fail)
  refine x_keep [0, 3, 4] rfl ?_
  refine x_loop_inv (fun lm le w => ∃ (i : Nat), ∃ (v : Value), lm = len - i ∧ i ≤ len ∧ le = [(0, .slice a len cap), (3, v), (4, .int .i64 i)] ∧ Sat S w (ownS T.int 1 v (ints .i64 (sortI (waitsE (l.take i)))) :: G)) (len) ⟨0, _, rfl, by omega, rfl, h⟩ ?_
  clear h
  rintro lm le w ⟨i, v, rfl, hi0, rfl, h⟩ ih
  obtain ⟨va, vl, vc, rfl, hvl, _⟩ := ownS_slice h .here
  rw [ints_length, Nat.mul_one] at hvl
  have hwl := (sortI_perm (waitsE (l.take i))).length_eq
  have hwl2 := waits_length (l.take i)
  rw [List.length_take] at hwl2
  by_cases hi : i < len
  · obtain ⟨e, he⟩ := has_elem (show i < l.length by omega)
    obtain ⟨pa, po, rfl⟩ := (hr w h.drop).addr (by omega)
    have hn := waits_next he
    have hm1 := hm.1 e (List.mem_of_getElem? he)
    have hm2 := hm.2 e (List.mem_of_getElem? he)
    unfold EvM.right at hm1
    unfold EvM.soon at hm2
    by_cases h0 : e.to = 0
    · rw [if_neg (fun hx => hx h0), List.append_nil] at hn
      repeat' (first | (refine gL ?_; refine p_val rfl (g_ldF (i := i) (f := 7) (u := .int .i64 e.to) evC_len rfl (hr _ h.drop) he rfl (by omega)) ?_) | refine stP ?_ | (refine p_cmp rfl rfl rfl rfl (fun hc => ?_) (fun hc => ?_) <;> simp only [cmpProp] at hc) | (refine r_cmp rfl rfl rfl rfl rfl (fun hc => ?_) (fun hc => ?_) <;> simp only [cmpProp] at hc) | (refine x_drawn rfl ?_; have h := h.drew) | refine x_drawn rfl ?_ | fail)
      exact x_keep [0, 3, 4] rfl (ih _ _ _ (by omega) ⟨i + 1, _, rfl, by omega, rfl, by rw [hn]; exact h⟩)
    · rw [if_pos h0] at hn
      generalize hs : sortI (waitsE (l.take i)) = s at *
      have hnx : sortI (waitsE (l.take (i + 1))) = putI s (e.to - e.from_) := by rw [hn, sortI_next, hs]
      obtain ⟨z, hz⟩ : ∃ z, z = e.to - e.from_ := ⟨_, rfl⟩
      rw [← hz] at hnx
      repeat' (first | (refine gL ?_; refine p_val rfl (g_ldF (i := i) (f := 7) (u := .int .i64 e.to) evC_len rfl (hr _ h.drop) he rfl (by omega)) ?_) | (refine gLR ?_; first | (refine r_own rfl rfl rfl h (fun w h => g_ldF (i := i) (f := 7) (u := .int .i64 e.to) evC_len rfl (hr _ h.drop) he rfl (by omega)) ?_) | (refine r_own rfl rfl rfl h (fun w h => g_ldF (i := i) (f := 6) (u := .int .i64 e.from_) evC_len rfl (hr _ h.drop) he rfl (by omega)) ?_)) | refine stP ?_ | (refine p_cmp rfl rfl rfl rfl (fun hc => ?_) (fun hc => ?_) <;> simp only [cmpProp] at hc) | (refine r_cmp rfl rfl rfl rfl rfl (fun hc => ?_) (fun hc => ?_) <;> simp only [cmpProp] at hc) | (refine x_drawn rfl ?_; have h := h.drew) | refine x_drawn rfl ?_ | fail)
      refine p_lit [] rfl rfl rfl rfl rfl rfl h (fun v w h => ?_)
      rw [← hz]
      have hput : PutI s z 0 false [] := .inr ⟨rfl, fun o ho => by simp at ho, rfl⟩
      have h : Sat S w (ownS T.int 1 v (ints .i64 []) :: ownS T.int 1 (.slice va vl vc) (ints .i64 s) :: G) := h
      repeat' (first | refine stPs ?_ | (refine p_cmp rfl rfl rfl rfl (fun hc => ?_) (fun hc => ?_) <;> simp only [cmpProp] at hc) | (refine r_cmp rfl rfl rfl rfl rfl (fun hc => ?_) (fun hc => ?_) <;> simp only [cmpProp] at hc) | (refine x_drawn rfl ?_; have h := h.drew) | refine x_drawn rfl ?_ | fail)
      refine x_keep [0, 3, 4, 5, 6, 7, 8] rfl ?_
      refine x_loop_inv (fun lm le w => ∃ (k : Nat), ∃ (out : List Int), ∃ (put : Bool), ∃ (vo : Value), lm = vl - k ∧ k ≤ vl ∧ PutI s z k put out ∧ le = [(0, .slice (some ⟨pa, po, none⟩) len cap), (3, .slice va vl vc), (4, .int .i64 i), (5, .int .i64 z), (6, vo), (7, .bool put), (8, .int .i64 k)] ∧ Sat S w (ownS T.int 1 vo (ints .i64 out) :: ownS T.int 1 (.slice va vl vc) (ints .i64 s) :: G)) (vl) ⟨0, [], false, _, rfl, by omega, hput, rfl, h⟩ ?_
      clear h
      rintro lm le w ⟨k, out, put, vo, rfl, hi0, hi1, rfl, h⟩ ih2
      obtain ⟨w1, w2, w3, rfl, _, _⟩ := ownS_slice h .here
      have hol := PutI_len hi1
      by_cases hk : k < vl
      · obtain ⟨y, hy⟩ := has_elem (show k < s.length by omega)
        have hgy : s.getD k 0 = y := by rw [List.getD_eq_getElem?_getD, hy]; rfl
        obtain ⟨vb, rfl⟩ := ownS_addr (E := T.int) h (.there .here) (by omega)
        cases put
        · by_cases hp : z < y
          · repeat' (first | (refine gL ?_; refine p_val rfl (g_ldI (i := k) (xs := s) rfl (ownS_rd h (by repeat first | exact .here | apply Has.there)) (by omega) (by omega)) ?_; rw [hgy]) | (refine p_do rfl (d_lit [.int .i64 z] rfl rfl rfl rfl rfl h) ?_; intro v9 w h) | (refine p_do rfl (d_lit [.int .i64 y] rfl rfl rfl rfl rfl h) ?_; intro v9 w h) | (refine p_do rfl (d_appR rfl rfl rfl (by decide) (h.pick (.there .here)) (ownS_rd h .here) (by simp [Value.oneCell']) (by simp [ints_length]; omega) (by simp [ints_length]; omega)) ?_; intro v8 w h; rw [ints_snoc] at h; obtain ⟨_, _, _, rfl, _, _⟩ := ownS_slice h .here) | refine stP ?_ | (refine p_cmp rfl rfl rfl rfl (fun hc => ?_) (fun hc => ?_) <;> simp only [cmpProp] at hc) | (refine r_cmp rfl rfl rfl rfl rfl (fun hc => ?_) (fun hc => ?_) <;> simp only [cmpProp] at hc) | (refine x_drawn rfl ?_; have h := h.drew) | refine x_drawn rfl ?_ | fail)
            exact x_keep [0, 3, 4, 5, 6, 7, 8] rfl (ih2 _ _ _ (by omega) ⟨k + 1, _, _, _, rfl, by omega, PutI_put hi1 hy hp, rfl, h.pm2⟩)
          · repeat' (first | (refine gL ?_; refine p_val rfl (g_ldI (i := k) (xs := s) rfl (ownS_rd h (by repeat first | exact .here | apply Has.there)) (by omega) (by omega)) ?_; rw [hgy]) | (refine p_do rfl (d_lit [.int .i64 z] rfl rfl rfl rfl rfl h) ?_; intro v9 w h) | (refine p_do rfl (d_lit [.int .i64 y] rfl rfl rfl rfl rfl h) ?_; intro v9 w h) | (refine p_do rfl (d_appR rfl rfl rfl (by decide) (h.pick (.there .here)) (ownS_rd h .here) (by simp [Value.oneCell']) (by simp [ints_length]; omega) (by simp [ints_length]; omega)) ?_; intro v8 w h; rw [ints_snoc] at h; obtain ⟨_, _, _, rfl, _, _⟩ := ownS_slice h .here) | refine stP ?_ | (refine p_cmp rfl rfl rfl rfl (fun hc => ?_) (fun hc => ?_) <;> simp only [cmpProp] at hc) | (refine r_cmp rfl rfl rfl rfl rfl (fun hc => ?_) (fun hc => ?_) <;> simp only [cmpProp] at hc) | (refine x_drawn rfl ?_; have h := h.drew) | refine x_drawn rfl ?_ | fail)
            exact x_keep [0, 3, 4, 5, 6, 7, 8] rfl (ih2 _ _ _ (by omega) ⟨k + 1, _, _, _, rfl, by omega, PutI_skip hi1 hy (.inr hp), rfl, h.pm2⟩)
        · repeat' (first | (refine gL ?_; refine p_val rfl (g_ldI (i := k) (xs := s) rfl (ownS_rd h (by repeat first | exact .here | apply Has.there)) (by omega) (by omega)) ?_; rw [hgy]) | (refine p_do rfl (d_lit [.int .i64 z] rfl rfl rfl rfl rfl h) ?_; intro v9 w h) | (refine p_do rfl (d_lit [.int .i64 y] rfl rfl rfl rfl rfl h) ?_; intro v9 w h) | (refine p_do rfl (d_appR rfl rfl rfl (by decide) (h.pick (.there .here)) (ownS_rd h .here) (by simp [Value.oneCell']) (by simp [ints_length]; omega) (by simp [ints_length]; omega)) ?_; intro v8 w h; rw [ints_snoc] at h; obtain ⟨_, _, _, rfl, _, _⟩ := ownS_slice h .here) | refine stP ?_ | (refine p_cmp rfl rfl rfl rfl (fun hc => ?_) (fun hc => ?_) <;> simp only [cmpProp] at hc) | (refine r_cmp rfl rfl rfl rfl rfl (fun hc => ?_) (fun hc => ?_) <;> simp only [cmpProp] at hc) | (refine x_drawn rfl ?_; have h := h.drew) | refine x_drawn rfl ?_ | fail)
          exact x_keep [0, 3, 4, 5, 6, 7, 8] rfl (ih2 _ _ _ (by omega) ⟨k + 1, _, _, _, rfl, by omega, PutI_skip hi1 hy (.inl rfl), rfl, h.pm2⟩)
      · obtain rfl : k = vl := by omega
        have htk : s.take k = s := List.take_of_length_le (by omega)
        rcases hi1 with ⟨rfl, _, rfl⟩ | ⟨rfl, hno, rfl⟩
        · rw [htk, ← hnx] at h
          repeat' (first | refine stPs ?_ | (refine p_cmp rfl rfl rfl rfl (fun hc => ?_) (fun hc => ?_) <;> simp only [cmpProp] at hc) | (refine r_cmp rfl rfl rfl rfl rfl (fun hc => ?_) (fun hc => ?_) <;> simp only [cmpProp] at hc) | (refine x_drawn rfl ?_; have h := h.drew) | refine x_drawn rfl ?_ | fail)
          exact x_keep [0, 3, 4] rfl (ih _ _ _ (by omega) ⟨i + 1, _, rfl, by omega, rfl, h.sub (.cons .here (.skip (by repeat first | exact .refl _ | apply Sub.skip)))⟩)
        · rw [htk] at hno h hol
          have e2 := putI_none hno
          repeat' (first | (refine gL ?_; refine p_val rfl (g_ldI (i := k) (xs := s) rfl (ownS_rd h (by repeat first | exact .here | apply Has.there)) (by omega) (by omega)) ?_; rw [hgy]) | (refine p_do rfl (d_lit [.int .i64 z] rfl rfl rfl rfl rfl h) ?_; intro v9 w h) | (refine p_do rfl (d_lit [.int .i64 y] rfl rfl rfl rfl rfl h) ?_; intro v9 w h) | (refine p_do rfl (d_appR rfl rfl rfl (by decide) (h.pick (.there .here)) (ownS_rd h .here) (by simp [Value.oneCell']) (by simp [ints_length]; omega) (by simp [ints_length]; omega)) ?_; intro v8 w h; rw [ints_snoc] at h; obtain ⟨_, _, _, rfl, _, _⟩ := ownS_slice h .here) | refine stP ?_ | (refine p_cmp rfl rfl rfl rfl (fun hc => ?_) (fun hc => ?_) <;> simp only [cmpProp] at hc) | (refine r_cmp rfl rfl rfl rfl rfl (fun hc => ?_) (fun hc => ?_) <;> simp only [cmpProp] at hc) | (refine x_drawn rfl ?_; have h := h.drew) | refine x_drawn rfl ?_ | fail)
          rw [← e2, ← hnx] at h
          exact x_keep [0, 3, 4] rfl (ih _ _ _ (by omega) ⟨i + 1, _, rfl, by omega, rfl, h.sub (.cons .here (.skip (by repeat first | exact .refl _ | apply Sub.skip)))⟩)
  · rw [List.take_of_length_le (by omega)] at h
    repeat' (first | refine stPs ?_ | (refine p_cmp rfl rfl rfl rfl (fun hc => ?_) (fun hc => ?_) <;> simp only [cmpProp] at hc) | (refine r_cmp rfl rfl rfl rfl rfl (fun hc => ?_) (fun hc => ?_) <;> simp only [cmpProp] at hc) | (refine x_drawn rfl ?_; have h := h.drew) | refine x_drawn rfl ?_ | fail)
    exact x_ret' is_ref29_Waits rfl h
end
end Go.Proofs.Ytojopmkekimpjaa
