/- Layer 29 (meter): those that took long, kinds; the reference's counts and lists. -/
import Derived.Test.YtojopmkekimpjaaHxS
import Derived.Test.YtojopmkekimpjaaP29k
namespace Go.Proofs.Ytojopmkekimpjaa
open Go Go.HX
attribute [local irreducible] Ret XRun XOps XDr XOne Does Gives
set_option maxRecDepth 4000
set_option maxHeartbeats 1000000
theorem stC0_P29n {goal next : Prop} (k : next) (hs : Hid next → goal := by (intro k; (first | (refine gN ?_; refine p_do rfl (d_newL h (by first | (dsimp only [Value.cells]; done) | exact rfl)) ?_) | fail); exact k.out)) : goal := hs ⟨k⟩
theorem stC1_P29n {goal next : Prop} (k : next) (hs : Hid next → goal := by (intro k; (first | (refine gS ?_; (first | refine p_do rfl (d_stwL rfl rfl rfl rfl rfl (h.pick (by repeat first | exact .here | apply Has.there)) (by first | (dsimp only [Value.cells]; done) | exact rfl)) ?_ | refine p_do rfl (d_stL rfl rfl rfl (h.pick (by repeat first | exact .here | apply Has.there)) (by first | exact of_decide_eq_true rfl | simp) (by first | (dsimp only [List.set]; done) | exact rfl)) ?_)) | fail); exact k.out)) : goal := hs ⟨k⟩
def isSlow (e : EvM) (wt : Int) : Prop := e.to = 0 ∨ wt ≤ e.to - e.from_
instance (e : EvM) (wt : Int) : Decidable (isSlow e wt) := inferInstanceAs (Decidable (_ ∨ _))
/-- The places of those that took long. -/
def slowE (wt : Int) : List EvM → Nat → List Int
  | [], _ => []
  | e :: l, i => (if isSlow e wt then [(i : Int)] else []) ++ slowE wt l (i + 1)
theorem slow_app (wt : Int) : ∀ (l m : List EvM) (i : Nat), slowE wt (l ++ m) i = slowE wt l i ++ slowE wt m (i + l.length)
  | [], m, i => rfl
  | e :: l, m, i => by
    show _ ++ slowE wt (l ++ m) (i + 1) = (_ ++ slowE wt l (i + 1)) ++ _
    rw [slow_app wt l m (i + 1), List.append_assoc, List.length_cons, show i + 1 + l.length = i + (l.length + 1) by omega]
theorem slow_next {wt : Int} {l : List EvM} {i : Nat} {e : EvM} (he : l[i]? = some e) : slowE wt (l.take (i + 1)) 0 = slowE wt (l.take i) 0 ++ if isSlow e wt then [(i : Int)] else [] := by
  have hi := (List.getElem?_eq_some_iff.1 he).1
  rw [take_next he, slow_app, List.length_take, show min i l.length = i by omega, Nat.zero_add]
  show _ ++ (_ ++ []) = _
  rw [List.append_nil]
theorem slow_length (wt : Int) : ∀ (l : List EvM) (i : Nat), (slowE wt l i).length ≤ l.length
  | [], _ => Nat.le_refl _
  | e :: l, i => by
    have := slow_length wt l (i + 1)
    unfold slowE
    rw [List.length_append, List.length_cons]
    split <;> simp <;> omega
/-- How many there are of each kind. -/
def kindE (l : List EvM) (k : Nat) : Int := (l.countP fun e => decide (e.kind = (k : Int) + 1) : Nat)
def kindsE (l : List EvM) : List Int := [kindE l 0, kindE l 1, kindE l 2, kindE l 3]
theorem kind_next {l : List EvM} {i : Nat} {e : EvM} (he : l[i]? = some e) (k : Nat) : kindE (l.take (i + 1)) k = kindE (l.take i) k + if e.kind = (k : Int) + 1 then 1 else 0 := by
  rw [take_next he]
  unfold kindE
  rw [List.countP_append, List.countP_cons, List.countP_nil]
  by_cases h : e.kind = (k : Int) + 1
  · rw [if_pos h, if_pos (by simpa using h)]; rfl
  · rw [if_neg h, if_neg (by simpa using h)]; simp
theorem kind_bnd (l : List EvM) (k : Nat) : 0 ≤ kindE l k ∧ kindE l k ≤ l.length := by
  unfold kindE
  have := List.countP_le_length (p := fun e : EvM => decide (e.kind = (k : Int) + 1)) (l := l)
  omega
theorem kinds_at (l : List EvM) {k : Nat} (hk : k < 4) : (kindsE l).getD k 0 = kindE l k := by
  rcases k with _ | _ | _ | _ | k
  · rfl
  · rfl
  · rfl
  · rfl
  · omega
theorem kinds_next {l : List EvM} {i q : Nat} {e : EvM} (he : l[i]? = some e) (hq : e.kind = (q : Int) + 1) (hn : q < 4) : kindsE (l.take (i + 1)) = (kindsE (l.take i)).set q ((kindsE (l.take i)).getD q 0 + 1) := by
  have h := kind_next he
  have e0 : ∀ k : Nat, k ≠ q → kindE (l.take (i + 1)) k = kindE (l.take i) k := fun k hk => by rw [h, if_neg (by omega)]; omega
  have e1 : kindE (l.take (i + 1)) q = kindE (l.take i) q + 1 := by rw [h, if_pos hq]
  rw [kinds_at _ hn, ← e1]
  unfold kindsE
  rcases q with _ | _ | _ | _ | q
  · rw [e0 1 (by omega), e0 2 (by omega), e0 3 (by omega)]; rfl
  · rw [e0 0 (by omega), e0 2 (by omega), e0 3 (by omega)]; rfl
  · rw [e0 0 (by omega), e0 1 (by omega), e0 3 (by omega)]; rfl
  · rw [e0 0 (by omega), e0 1 (by omega), e0 2 (by omega)]; rfl
  · omega
theorem ints_snoc' (kd : IntKind) (l : List Int) (z : Int) : ints kd l ++ [.int kd z] = ints kd (l ++ [z]) := by simp [ints]
section
variable {S : SP} {w : World} {G : List HProp}

set_option maxHeartbeats 4000000 in
theorem meter_Slow_spec {v : Value} (l : List EvM) (wt : Int) (hl : l.length ≤ 1000) (hr : ∀ w, Sat S w G → RdS w 8 v (rows evC l)) (h : Sat S w G) :
    Ret Try.prog F.meter_Slow #[v, .int .i64 wt] w (fun u w' => (¬ mayE l ∧ u = .tuple #[.slice none 0 0, .int .i64 1] ∧ Sat S w' G) ∨ (mayE l ∧ ∃ r, u = .tuple #[r, .int .i64 0] ∧ Sat S w' (ownS T.int 1 r (ints .i64 (slowE wt l 0)) :: G))) := by
  obtain ⟨a, len, cap, rfl, _⟩ := hr w h
  have hlen := (hr w h).rlen evC_len (by decide)
  refine ret_of is_meter_Slow rfl ?_
  by_cases hm : mayE l
  · have h := ownS_none (E := T.int) (n := 1) h
    repeat' (first | (refine gC F.meter_may ?_; refine p_call rfl rfl (meter_may_spec l (by omega) (fun w h => hr w h.drop) h) ?_; rintro _ w ⟨(⟨rfl, hb⟩ | ⟨rfl, hb⟩), h⟩; rotate_left; exact absurd hm hb) | refine stP ?_ | (refine stC0_P29n ?_; rintro _ w ⟨bx, rfl, h⟩) | (refine stC1_P29n ?_; rintro _ w ⟨rfl, h⟩) | (refine p_cmp rfl rfl rfl rfl (fun hc => ?_) (fun hc => ?_) <;> simp only [cmpProp] at hc) | fail)
    refine x_keep [1, 6, 12, 13, 14] rfl ?_
    refine x_loop_inv (fun lm le w => ∃ (i : Nat), ∃ (v : Value), lm = len - i ∧ i ≤ len ∧ le = [(1, .int .i64 wt), (6, v), (12, .slice a len cap), (13, .int .i64 len), (14, .int .i64 i)] ∧ Sat S w (ownS T.int 1 v (ints .i64 (slowE wt (l.take i) 0)) :: G)) (len) ⟨0, _, rfl, by omega, rfl, h⟩ ?_
    clear h
    rintro lm le w ⟨i, v, rfl, hi0, rfl, h⟩ ih
    obtain ⟨va, vl, vc, rfl, hvl, _⟩ := ownS_slice h .here
    rw [ints_length, Nat.mul_one] at hvl
    have hwl := slow_length wt (l.take i) 0
    rw [List.length_take] at hwl
    by_cases hi : i < len
    · obtain ⟨e, he⟩ := has_elem (show i < l.length by omega)
      obtain ⟨pa, po, rfl⟩ := (hr w h.drop).addr (by omega)
      have hn := slow_next (wt := wt) he
      have hm1 := hm.1 e (List.mem_of_getElem? he)
      have hm2 := hm.2 e (List.mem_of_getElem? he)
      unfold EvM.right at hm1
      unfold EvM.soon at hm2
      by_cases hs : isSlow e wt
      · rw [if_pos hs] at hn
        unfold isSlow at hs
        repeat' (first | (refine gL ?_; refine p_val rfl (g_ldE (i := i) evC_len rfl (hr _ h.drop) he (by omega)) ?_) | (refine p_do rfl (d_lit [.int .i64 i] rfl rfl rfl rfl rfl h) ?_; intro v2 w h) | (refine p_do rfl (d_appR rfl rfl rfl (by decide) (h.pick (.there (.there .here))) (ownS_rd h .here) (by simp [Value.oneCell']) (by simp [ints_length]; omega) (by simp [ints_length]; omega)) ?_; intro v3 w h; rw [ints_snoc', ← hn] at h; obtain ⟨_, _, _, rfl, _, _⟩ := ownS_slice h .here) | refine stP ?_ | (refine stC0_P29n ?_; rintro _ w ⟨bx, rfl, h⟩) | (refine stC1_P29n ?_; rintro _ w ⟨rfl, h⟩) | (refine p_cmp rfl rfl rfl rfl (fun hc => ?_) (fun hc => ?_) <;> simp only [cmpProp] at hc) | fail)
        all_goals exact x_keep [1, 6, 12, 13, 14] rfl (ih _ _ _ (by omega) ⟨i + 1, _, rfl, by omega, rfl, h.sub (.cons .here (.skip (.skip (by repeat first | exact .refl _ | apply Sub.skip))))⟩)
      · rw [if_neg hs, List.append_nil] at hn
        unfold isSlow at hs
        repeat' (first | (refine gL ?_; refine p_val rfl (g_ldE (i := i) evC_len rfl (hr _ h.drop) he (by omega)) ?_) | refine stP ?_ | (refine stC0_P29n ?_; rintro _ w ⟨bx, rfl, h⟩) | (refine stC1_P29n ?_; rintro _ w ⟨rfl, h⟩) | (refine p_cmp rfl rfl rfl rfl (fun hc => ?_) (fun hc => ?_) <;> simp only [cmpProp] at hc) | fail)
        all_goals exact x_keep [1, 6, 12, 13, 14] rfl (ih _ _ _ (by omega) ⟨i + 1, _, rfl, by omega, rfl, by rw [hn]; exact h.sub (.cons (by repeat first | exact .here | apply Has.there) (.skip (by repeat first | exact .refl _ | apply Sub.skip)))⟩)
    · rw [List.take_of_length_le (show l.length ≤ i by omega)] at h
      repeat' (first | refine stPs ?_ | (refine stC0_P29n ?_; rintro _ w ⟨bx, rfl, h⟩) | (refine stC1_P29n ?_; rintro _ w ⟨rfl, h⟩) | (refine p_cmp rfl rfl rfl rfl (fun hc => ?_) (fun hc => ?_) <;> simp only [cmpProp] at hc) | fail)
      exact x_ret' is_meter_Slow rfl (.inr ⟨hm, _, rfl, h⟩)
  · repeat' (first | (refine gC F.meter_may ?_; refine p_call rfl rfl (meter_may_spec l (by omega) hr h) ?_; rintro _ w ⟨(⟨rfl, hb⟩ | ⟨rfl, hb⟩), h⟩; exact absurd hb hm) | refine stP ?_ | (refine stC0_P29n ?_; rintro _ w ⟨bx, rfl, h⟩) | (refine stC1_P29n ?_; rintro _ w ⟨rfl, h⟩) | (refine p_cmp rfl rfl rfl rfl (fun hc => ?_) (fun hc => ?_) <;> simp only [cmpProp] at hc) | fail)
    exact x_ret' is_meter_Slow rfl (.inl ⟨hm, rfl, h⟩)

set_option maxHeartbeats 4000000 in
theorem meter_Kinds_spec {v : Value} (l : List EvM) (hl : l.length ≤ 1000) (hr : ∀ w, Sat S w G → RdS w 8 v (rows evC l)) (h : Sat S w G) :
    Ret Try.prog F.meter_Kinds #[v] w (fun u w' => (¬ mayE l ∧ u = .tuple #[.slice none 0 0, .int .i64 1] ∧ Sat S w' G) ∨ (mayE l ∧ ∃ r, u = .tuple #[r, .int .i64 0] ∧ Sat S w' (ownS T.int 1 r (ints .i64 (kindsE l)) :: G))) := by
  obtain ⟨a, len, cap, rfl, _⟩ := hr w h
  have hlen := (hr w h).rlen evC_len (by decide)
  refine ret_of is_meter_Kinds rfl ?_
  by_cases hm : mayE l
  · repeat' (first | (refine gC F.meter_may ?_; refine p_call rfl rfl (meter_may_spec l (by omega) hr h) ?_; rintro _ w ⟨(⟨rfl, hb⟩ | ⟨rfl, hb⟩), h⟩; rotate_left; exact absurd hm hb) | (refine p_do rfl (d_mkN (kd := .i64) (sz := 1) (n := 4) rfl rfl (by decide) (by omega) (by omega) h) ?_; intro u w h; rw [Nat.mul_one] at h; obtain ⟨u1, u2, u3, rfl, hul, _⟩ := ownS_slice h .here) | refine stP ?_ | (refine stC0_P29n ?_; rintro _ w ⟨bx, rfl, h⟩) | (refine stC1_P29n ?_; rintro _ w ⟨rfl, h⟩) | (refine p_cmp rfl rfl rfl rfl (fun hc => ?_) (fun hc => ?_) <;> simp only [cmpProp] at hc) | fail)
    rw [ints_length, List.length_replicate, Nat.mul_one] at hul
    subst hul
    refine x_keep [4, 11, 12, 13] rfl ?_
    refine x_loop_inv (fun lm le w => ∃ (i : Nat), lm = len - i ∧ i ≤ len ∧ le = [(4, .slice u1 4 u3), (11, .slice a len cap), (12, .int .i64 len), (13, .int .i64 i)] ∧ Sat S w (ownS T.int 1 (.slice u1 4 u3) (ints .i64 (kindsE (l.take i))) :: G)) (len) ⟨0, rfl, by omega, rfl, h⟩ ?_
    clear h
    rintro lm le w ⟨i, rfl, hi0, rfl, h⟩ ih
    by_cases hi : i < len
    · obtain ⟨e, he⟩ := has_elem (show i < l.length by omega)
      obtain ⟨pa, po, rfl⟩ := (hr w h.drop).addr (by omega)
      obtain ⟨ub, rfl⟩ := ownS_addr (E := T.int) h .here (by omega)
      have hm1 := hm.1 e (List.mem_of_getElem? he)
      unfold EvM.right at hm1
      obtain ⟨q, hq⟩ := Int.eq_ofNat_of_zero_le (show 0 ≤ e.kind - 1 by omega)
      have hq4 : q < 4 := by omega
      have hnx := kinds_next he (show e.kind = (q : Int) + 1 by omega) hq4
      have hgd := kinds_at (l.take i) hq4
      have hkb := kind_bnd (l.take i) q
      rw [List.length_take] at hkb
      have hkl : (kindsE (l.take i)).length = 4 := rfl
      repeat' (first | (refine gL ?_; first | (refine p_val rfl (g_ldE (i := i) evC_len rfl (hr _ h.drop) he (by omega)) ?_) | (refine p_val rfl (g_ldI (i := q) (xs := kindsE (l.take i)) rfl (ownS_rd h (by repeat first | exact .here | apply Has.there)) (by omega) (by omega)) ?_)) | (refine gS ?_; refine p_do rfl (d_stI (i := q) (xs := kindsE (l.take i)) rfl rfl (h.pick (by repeat first | exact .here | apply Has.there)) (by omega) (by omega)) ?_; rintro _ w ⟨rfl, h⟩) | refine stP ?_ | (refine stC0_P29n ?_; rintro _ w ⟨bx, rfl, h⟩) | (refine stC1_P29n ?_; rintro _ w ⟨rfl, h⟩) | (refine p_cmp rfl rfl rfl rfl (fun hc => ?_) (fun hc => ?_) <;> simp only [cmpProp] at hc) | fail)
      rw [← hnx] at h
      exact x_keep [4, 11, 12, 13] rfl (ih _ _ _ (by omega) ⟨i + 1, rfl, by omega, rfl, h.sub (.cons (by repeat first | exact .here | apply Has.there) (.skip (by repeat first | exact .refl _ | apply Sub.skip)))⟩)
    · rw [List.take_of_length_le (show l.length ≤ i by omega)] at h
      repeat' (first | refine stPs ?_ | (refine stC0_P29n ?_; rintro _ w ⟨bx, rfl, h⟩) | (refine stC1_P29n ?_; rintro _ w ⟨rfl, h⟩) | (refine p_cmp rfl rfl rfl rfl (fun hc => ?_) (fun hc => ?_) <;> simp only [cmpProp] at hc) | fail)
      exact x_ret' is_meter_Kinds rfl (.inr ⟨hm, _, rfl, h⟩)
  · repeat' (first | (refine gC F.meter_may ?_; refine p_call rfl rfl (meter_may_spec l (by omega) hr h) ?_; rintro _ w ⟨(⟨rfl, hb⟩ | ⟨rfl, hb⟩), h⟩; exact absurd hb hm) | refine stP ?_ | (refine stC0_P29n ?_; rintro _ w ⟨bx, rfl, h⟩) | (refine stC1_P29n ?_; rintro _ w ⟨rfl, h⟩) | (refine p_cmp rfl rfl rfl rfl (fun hc => ?_) (fun hc => ?_) <;> simp only [cmpProp] at hc) | fail)
    exact x_ret' is_meter_Kinds rfl (.inl ⟨hm, rfl, h⟩)

theorem ref20_Count_spec {v : Value} (l : List EvM) (k : ByteArray) (hl : l.length ≤ 1000) (hr : ∀ w, Sat S w G → RdS w 8 v (rows evC l)) (h : Sat S w G) :
    Ret Try.prog F.ref20_Count #[v, .string k] w (fun u w' => u = .int .i64 (cntK l k : Nat) ∧ Sat S w' G) := by
  obtain ⟨a, len, cap, rfl, _⟩ := hr w h
  have hlen := (hr w h).rlen evC_len (by decide)
  refine ret_of is_ref20_Count rfl ?_
  repeat' (first | refine stPs ?_ | (refine p_cmp rfl rfl rfl rfl (fun hc => ?_) (fun hc => ?_) <;> simp only [cmpProp] at hc) | fail)
  refine x_keep [0, 1, 5, 6] rfl ?_
  refine x_loop_inv (fun lm le w => ∃ (i : Nat), lm = len - i ∧ i ≤ len ∧ le = [(0, .slice a len cap), (1, .string k), (5, .int .i64 (cntK (l.take i) k : Nat)), (6, .int .i64 i)] ∧ Sat S w (G)) (len) ⟨0, rfl, by omega, rfl, h⟩ ?_
  clear h
  rintro lm le w ⟨i, rfl, hi0, rfl, h⟩ ih
  by_cases hi : i < len
  · obtain ⟨e, he⟩ := has_elem (show i < l.length by omega)
    obtain ⟨pa, po, rfl⟩ := (hr w h).addr (by omega)
    have hn := cntK_next he k
    have hb := cntK_bnd (l.take i) k
    rw [List.length_take] at hb
    repeat' (first | (refine gL ?_; refine p_val rfl (g_ldF (i := i) (f := 1) (u := .string e.key) evC_len rfl (hr _ h) he rfl (by omega)) ?_) | (refine p_seq rfl rfl rfl (fun hk => ?_) (fun hk => ?_)) | refine stP ?_ | (refine p_cmp rfl rfl rfl rfl (fun hc => ?_) (fun hc => ?_) <;> simp only [cmpProp] at hc) | fail)
    · rw [if_pos hk] at hn
      exact x_keep [0, 1, 5, 6] rfl (ih _ _ _ (by omega) ⟨i + 1, rfl, by omega, by rw [hn]; rfl, h⟩)
    · rw [if_neg hk] at hn
      exact x_keep [0, 1, 5, 6] rfl (ih _ _ _ (by omega) ⟨i + 1, rfl, by omega, by rw [hn]; rfl, h⟩)
  · rw [List.take_of_length_le (show l.length ≤ i by omega)]
    repeat' (first | refine stPs ?_ | (refine p_cmp rfl rfl rfl rfl (fun hc => ?_) (fun hc => ?_) <;> simp only [cmpProp] at hc) | fail)
    exact x_ret' is_ref20_Count rfl ⟨rfl, h⟩

theorem ref11_Ints_same {v u : Value} (l : List Int) (hr1 : ∀ w, Sat S w G → RdS w 1 v (ints .i64 l)) (hr2 : ∀ w, Sat S w G → RdS w 1 u (ints .i64 l)) (hl : l.length ≤ 100000000) (h : Sat S w G) :
    Ret Try.prog F.ref11_Ints #[v, u] w (fun v w' => v = .bool true ∧ Sat S w' G) := by
  obtain ⟨a1, len1, cap1, rfl, _⟩ := hr1 w h
  obtain ⟨a2, len2, cap2, rfl, _⟩ := hr2 w h
  have e1 := (hr1 w h).ilen
  have e2 := (hr2 w h).ilen
  obtain rfl : len1 = len2 := by omega
  refine ret_of is_ref11_Ints rfl ?_
  repeat' (first | refine stPs ?_ | (refine p_cmp rfl rfl rfl rfl (fun hc => ?_) (fun hc => ?_) <;> simp only [cmpProp] at hc) | (refine r_cmp rfl rfl rfl rfl rfl (fun hc => ?_) (fun hc => ?_) <;> simp only [cmpProp] at hc) | (refine x_drawn rfl ?_; have h := h.drew) | refine x_drawn rfl ?_ | fail)
  refine x_keep [0, 1, 5] rfl ?_
  refine x_loop_inv (fun lm le w => ∃ (i : Nat), lm = len1 - i ∧ i ≤ len1 ∧ le = [(0, .slice a1 len1 cap1), (1, .slice a2 len1 cap2), (5, .int .i64 i)] ∧ Sat S w (G)) (len1) ⟨0, rfl, by omega, rfl, h⟩ ?_
  clear h
  rintro lm le w ⟨i, rfl, hi0, rfl, h⟩ ih
  by_cases h1 : i < len1
  · obtain ⟨b1, o1, rfl⟩ := (hr1 w h).addr (by omega)
    obtain ⟨b2, o2, rfl⟩ := (hr2 w h).addr (by omega)
    repeat' (first | (refine gLR ?_; first | (refine r_own rfl rfl rfl h (fun w h => g_ldI (i := i) rfl (hr1 w h) (by omega) (by omega)) ?_) | (refine r_own rfl rfl rfl h (fun w h => g_ldI (i := i) rfl (hr2 w h) (by omega) (by omega)) ?_)) | refine stP ?_ | (refine p_cmp rfl rfl rfl rfl (fun hc => ?_) (fun hc => ?_) <;> simp only [cmpProp] at hc) | (refine r_cmp rfl rfl rfl rfl rfl (fun hc => ?_) (fun hc => ?_) <;> simp only [cmpProp] at hc) | (refine x_drawn rfl ?_; have h := h.drew) | refine x_drawn rfl ?_ | fail)
    exact x_keep [0, 1, 5] rfl (ih _ _ _ (by omega) ⟨i + 1, rfl, by omega, rfl, h⟩)
  · repeat' (first | refine stPs ?_ | (refine p_cmp rfl rfl rfl rfl (fun hc => ?_) (fun hc => ?_) <;> simp only [cmpProp] at hc) | (refine r_cmp rfl rfl rfl rfl rfl (fun hc => ?_) (fun hc => ?_) <;> simp only [cmpProp] at hc) | (refine x_drawn rfl ?_; have h := h.drew) | refine x_drawn rfl ?_ | fail)
    exact x_ret' is_ref11_Ints rfl ⟨rfl, h⟩
end
end Go.Proofs.Ytojopmkekimpjaa
