/- Layer 29 (meter): how many are answered in each run of times. -/
import Derived.Test.YtojopmkekimpjaaHxS
import Derived.Test.YtojopmkekimpjaaP29
import Derived.Test.YtojopmkekimpjaaL29r
namespace Go.Proofs.Ytojopmkekimpjaa
open Go Go.HX
attribute [local irreducible] Ret XRun XOps XDr XOne Does Gives
set_option maxRecDepth 4000
set_option maxHeartbeats 1000000
theorem stC0_P29r {goal next : Prop} (k : next) (hs : Hid next → goal := by (intro k; (first | (refine gN ?_; refine p_do rfl (d_newL h (by first | (dsimp only [Value.cells]; done) | exact rfl)) ?_) | fail); exact k.out)) : goal := hs ⟨k⟩
theorem stC1_P29r {goal next : Prop} (k : next) (hs : Hid next → goal := by (intro k; (first | (refine gS ?_; (first | refine p_do rfl (d_stwL rfl rfl rfl rfl rfl (h.pick (by repeat first | exact .here | apply Has.there)) (by first | (dsimp only [Value.cells]; done) | exact rfl)) ?_ | refine p_do rfl (d_stL rfl rfl rfl (h.pick (by repeat first | exact .here | apply Has.there)) (by first | exact of_decide_eq_true rfl | simp) (by first | (dsimp only [List.set]; done) | exact rfl)) ?_)) | fail); exact k.out)) : goal := hs ⟨k⟩
theorem last_may {l : List EvM} (h : mayE l) : 0 ≤ lastE l ∧ lastE l ≤ 999999999 ∧ ∀ e ∈ l, 0 ≤ e.to ∧ e.to ≤ lastE l := by
  obtain ⟨h1, h2, h3⟩ := last_bnd (l := l)
  refine ⟨h1, h3 _ (by decide) (fun e he => (h.2 e he).2), fun e he => ⟨?_, h2 e he⟩⟩
  have := h.1 e he
  unfold EvM.right at this
  omega
section
variable {S : SP} {w : World} {G : List HProp}

set_option maxHeartbeats 8000000 in
theorem meter_Rates_spec {v : Value} (l : List EvM) (wd : Int) (hl : l.length ≤ 1000) (hwd : wd ≤ 9223372036854775807) (hr : ∀ w, Sat S w G → RdS w 8 v (rows evC l)) (h : Sat S w G) :
    Ret Try.prog F.meter_Rates #[v, .int .i64 wd] w (fun u w' => (¬ (mayE l ∧ 1 ≤ wd) ∧ u = .tuple #[.slice none 0 0, .int .i64 1] ∧ Sat S w' G) ∨ ((mayE l ∧ 1 ≤ wd) ∧ ((lastE l = 0 ∧ u = .tuple #[.slice none 0 0, .int .i64 0] ∧ Sat S w' G) ∨ ((lastE l ≠ 0 ∧ 10000 ≤ lastE l / wd) ∧ u = .tuple #[.slice none 0 0, .int .i64 5] ∧ Sat S w' G) ∨ ((lastE l ≠ 0 ∧ lastE l / wd < 10000) ∧ ∃ r, u = .tuple #[r, .int .i64 0] ∧ Sat S w' (ownS T.int 1 r (ints .i64 (ratesE l wd (lastE l / wd + 1).toNat)) :: G))))) := by
  obtain ⟨a, len, cap, rfl, _⟩ := hr w h
  have hlen := (hr w h).rlen evC_len (by decide)
  refine ret_of is_meter_Rates rfl ?_
  by_cases hok : mayE l ∧ 1 ≤ wd
  · obtain ⟨hm, hw1⟩ := hok
    obtain ⟨h1, h2, h3⟩ := last_may hm
    repeat' (first | (refine gC F.meter_may ?_; refine p_call rfl rfl (meter_may_spec l (by omega) hr h) ?_; rintro _ w ⟨(⟨rfl, hb⟩ | ⟨rfl, hb⟩), h⟩; rotate_left; exact absurd hm hb) | refine stP ?_ | (refine stC0_P29r ?_; rintro _ w ⟨bx, rfl, h⟩) | (refine stC1_P29r ?_; rintro _ w ⟨rfl, h⟩) | (refine p_cmp rfl rfl rfl rfl (fun hc => ?_) (fun hc => ?_) <;> simp only [cmpProp] at hc) | fail)
    refine x_keep [0, 1, 6, 19, 20, 21] rfl ?_
    refine x_loop_inv (fun lm le w => ∃ (i : Nat), lm = len - i ∧ i ≤ len ∧ le = [(0, .slice a len cap), (1, .int .i64 wd), (6, .int .i64 (lastE (l.take i))), (19, .slice a len cap), (20, .int .i64 len), (21, .int .i64 i)] ∧ Sat S w (G)) (len) ⟨0, rfl, by omega, rfl, h⟩ ?_
    clear h
    rintro lm le w ⟨i, rfl, hi0, rfl, h⟩ ih
    by_cases hi : i < len
    · obtain ⟨e, he⟩ := has_elem (show i < l.length by omega)
      obtain ⟨pa, po, rfl⟩ := (hr w h).addr (by omega)
      repeat' (first | (refine gL ?_; refine p_val rfl (g_ldE (i := i) evC_len rfl (hr _ h) he (by omega)) ?_) | refine stP ?_ | (refine stC0_P29r ?_; rintro _ w ⟨bx, rfl, h⟩) | (refine stC1_P29r ?_; rintro _ w ⟨rfl, h⟩) | (refine p_cmp rfl rfl rfl rfl (fun hc => ?_) (fun hc => ?_) <;> simp only [cmpProp] at hc) | fail)
      exact x_keep [0, 1, 6, 19, 20, 21] rfl (ih _ _ _ (by omega) ⟨i + 1, rfl, by omega, by rw [last_next he]; rfl, h.drop⟩)
    · rw [List.take_of_length_le (show l.length ≤ i by omega)]
      generalize hla : lastE l = la at *
      obtain ⟨q, hq⟩ := Int.eq_ofNat_of_zero_le (Int.ediv_nonneg h1 (show 0 ≤ wd by omega))
      have hqd : ∀ e ∈ l, 0 ≤ e.to / wd ∧ e.to / wd ≤ q := fun e he => by
        obtain ⟨e0, e1⟩ := h3 e he
        have := Int.ediv_le_ediv (show 0 < wd by omega) e1
        exact ⟨Int.ediv_nonneg e0 (by omega), by omega⟩
      by_cases h0 : la = 0
      · subst h0
        repeat' (first | refine stPs ?_ | (refine stC0_P29r ?_; rintro _ w ⟨bx, rfl, h⟩) | (refine stC1_P29r ?_; rintro _ w ⟨rfl, h⟩) | (refine p_cmp rfl rfl rfl rfl (fun hc => ?_) (fun hc => ?_) <;> simp only [cmpProp] at hc) | fail)
        exact x_ret' is_meter_Rates rfl (.inr ⟨⟨hm, hw1⟩, .inl ⟨rfl, rfl, h⟩⟩)
      by_cases hbig : 10000 ≤ la / wd
      · repeat' (first | (refine p_val rfl (g_quo_i rfl rfl h1 (by omega) (by omega)) ?_) | refine stP ?_ | (refine stC0_P29r ?_; rintro _ w ⟨bx, rfl, h⟩) | (refine stC1_P29r ?_; rintro _ w ⟨rfl, h⟩) | (refine p_cmp rfl rfl rfl rfl (fun hc => ?_) (fun hc => ?_) <;> simp only [cmpProp] at hc) | fail)
        exact x_ret' is_meter_Rates rfl (.inr ⟨⟨hm, hw1⟩, .inr (.inl ⟨⟨h0, hbig⟩, rfl, h⟩)⟩)
      · rw [hq] at hbig
        repeat' (first | (refine p_val rfl (g_quo_i rfl rfl h1 (by omega) (by omega)) ?_; rw [hq]) | (refine p_do rfl (d_mkN (kd := .i64) (sz := 1) (n := q + 1) rfl rfl (by decide) (by omega) (by omega) h) ?_; intro u w h; rw [Nat.mul_one] at h; obtain ⟨u1, u2, u3, rfl, hul, _⟩ := ownS_slice h .here) | refine stP ?_ | (refine stC0_P29r ?_; rintro _ w ⟨bx, rfl, h⟩) | (refine stC1_P29r ?_; rintro _ w ⟨rfl, h⟩) | (refine p_cmp rfl rfl rfl rfl (fun hc => ?_) (fun hc => ?_) <;> simp only [cmpProp] at hc) | fail)
        rw [ints_length, List.length_replicate, Nat.mul_one] at hul
        rw [← rates_none wd] at h
        refine x_keep [1, 9, 43, 44, 45] rfl ?_
        refine x_loop_inv (fun lm le w => ∃ (j : Nat), lm = len - j ∧ j ≤ len ∧ le = [(1, .int .i64 wd), (9, .slice u1 u2 u3), (43, .slice a len cap), (44, .int .i64 len), (45, .int .i64 j)] ∧ Sat S w (ownS T.int 1 (.slice u1 u2 u3) (ints .i64 (ratesE (l.take j) wd (q + 1))) :: G)) (len) ⟨0, rfl, by omega, rfl, h⟩ ?_
        clear h
        rintro lm le w ⟨j, rfl, hi0, rfl, h⟩ ih2
        by_cases hj : j < len
        · obtain ⟨e, he⟩ := has_elem (show j < l.length by omega)
          obtain ⟨pa, po, rfl⟩ := (hr w h.drop).addr (by omega)
          obtain ⟨ub, rfl⟩ := ownS_addr (E := T.int) h .here (by omega)
          obtain ⟨e0, e1⟩ := h3 e (List.mem_of_getElem? he)
          obtain ⟨d0, d1⟩ := hqd e (List.mem_of_getElem? he)
          obtain ⟨qe, hqe⟩ := Int.eq_ofNat_of_zero_le d0
          have hrl := rates_length (l.take j) wd (q + 1)
          by_cases ht : e.to = 0
          · repeat' (first | (refine gL ?_; refine p_val rfl (g_ldE (i := j) evC_len rfl (hr _ h.drop) he (by omega)) ?_) | refine stP ?_ | (refine stC0_P29r ?_; rintro _ w ⟨bx, rfl, h⟩) | (refine stC1_P29r ?_; rintro _ w ⟨rfl, h⟩) | (refine p_cmp rfl rfl rfl rfl (fun hc => ?_) (fun hc => ?_) <;> simp only [cmpProp] at hc) | fail)
            exact x_keep [1, 9, 43, 44, 45] rfl (ih2 _ _ _ (by omega) ⟨j + 1, rfl, by omega, rfl, by rw [rates_skip he ht]; exact h.sub (.cons (by repeat first | exact .here | apply Has.there) (.skip (by repeat first | exact .refl _ | apply Sub.skip)))⟩)
          · have hnx := rates_next (n := q + 1) he ht hqe (by omega)
            have hcb := cnt_bnd (l.take j) wd qe
            have hgd := rates_getD (l.take j) wd (show qe < q + 1 by omega)
            rw [List.length_take] at hcb
            repeat' (first | (refine gL ?_; first | (refine p_val rfl (g_ldE (i := j) evC_len rfl (hr _ h.drop) he (by omega)) ?_) | (refine p_val rfl (g_ldI (i := qe) (xs := ratesE (l.take j) wd (q + 1)) rfl (ownS_rd h (by repeat first | exact .here | apply Has.there)) (by omega) (by omega)) ?_)) | (refine p_val rfl (g_quo_i rfl rfl e0 (by omega) (by omega)) ?_; rw [hqe]) | (refine gS ?_; refine p_do rfl (d_stI (i := qe) (xs := ratesE (l.take j) wd (q + 1)) rfl rfl (h.pick (by repeat first | exact .here | apply Has.there)) (by omega) (by omega)) ?_; rintro _ w ⟨rfl, h⟩) | refine stP ?_ | (refine stC0_P29r ?_; rintro _ w ⟨bx, rfl, h⟩) | (refine stC1_P29r ?_; rintro _ w ⟨rfl, h⟩) | (refine p_cmp rfl rfl rfl rfl (fun hc => ?_) (fun hc => ?_) <;> simp only [cmpProp] at hc) | fail)
            rw [← hnx] at h
            exact x_keep [1, 9, 43, 44, 45] rfl (ih2 _ _ _ (by omega) ⟨j + 1, rfl, by omega, rfl, h.sub (.cons (by repeat first | exact .here | apply Has.there) (.skip (by repeat first | exact .refl _ | apply Sub.skip)))⟩)
        · repeat' (first | refine stPs ?_ | (refine stC0_P29r ?_; rintro _ w ⟨bx, rfl, h⟩) | (refine stC1_P29r ?_; rintro _ w ⟨rfl, h⟩) | (refine p_cmp rfl rfl rfl rfl (fun hc => ?_) (fun hc => ?_) <;> simp only [cmpProp] at hc) | fail)
          rw [List.take_of_length_le (show l.length ≤ j by omega)] at h
          exact x_ret' is_meter_Rates rfl (.inr ⟨⟨hm, hw1⟩, .inr (.inr ⟨⟨h0, by omega⟩, _, rfl, h⟩)⟩)
  · repeat' (first | (refine gC F.meter_may ?_; refine p_call rfl rfl (meter_may_spec l (by omega) hr h) ?_; rintro _ w ⟨(⟨rfl, hb⟩ | ⟨rfl, hb⟩), h⟩) | refine stP ?_ | (refine stC0_P29r ?_; rintro _ w ⟨bx, rfl, h⟩) | (refine stC1_P29r ?_; rintro _ w ⟨rfl, h⟩) | (refine p_cmp rfl rfl rfl rfl (fun hc => ?_) (fun hc => ?_) <;> simp only [cmpProp] at hc) | fail)
    all_goals first | (exfalso; exact hok ⟨by assumption, by omega⟩) | exact x_ret' is_meter_Rates rfl (.inl ⟨hok, rfl, h⟩)
end
end Go.Proofs.Ytojopmkekimpjaa
