/- Layer 29 (meter): the law MeterRates. -/
import Derived.Test.YtojopmkekimpjaaHxS
import Derived.Test.YtojopmkekimpjaaW29s
import Derived.Test.YtojopmkekimpjaaP29r
namespace Go.Proofs.Ytojopmkekimpjaa
open Go Go.HX
attribute [local irreducible] Ret XRun XOps XDr XOne Does Gives
set_option maxRecDepth 4000
set_option maxHeartbeats 1000000
theorem stC0_W29r {goal next : Prop} (k : next) (hs : Hid next → goal := by (intro k; (first | (refine gC F.law29_awake ?_; refine p_call rfl rfl (law29_awake_spec h) ?_) | fail); exact k.out)) : goal := hs ⟨k⟩
section
variable {S : SP} {w : World} {G : List HProp}

set_option maxHeartbeats 16000000 in
theorem law29_MeterRates_spec {v1 : Value} (l : List EvM) (wd : Int) (hwd : wd ≤ 9223372036854775807) (hA : Old S 8 v1 (rows evC l)) (h : Sat S w G) :
    Ret Try.prog F.law29_MeterRates #[v1, .int .i64 wd] w (fun v w' => v = .bool true ∧ Sat S w' []) := by
  obtain ⟨va, vl, vc, rfl, _⟩ := hA _ w h
  have hvl := (hA _ w h).rlen evC_len (by decide)
  refine ret_of is_law29_MeterRates rfl ?_
  by_cases h100 : 100 < vl
  · repeat' (first | (refine gC F.law29_awake ?_; refine p_call rfl rfl (law29_awake_spec h) ?_; rintro _ w ⟨rfl, h⟩) | refine stP ?_ | (refine stC0_W29r ?_; rintro _ w ⟨rfl, h⟩) | (refine p_cmp rfl rfl rfl rfl (fun hc => ?_) (fun hc => ?_) <;> simp only [cmpProp] at hc) | fail)
    exact x_ret' is_law29_MeterRates rfl ⟨rfl, h.nil⟩
  by_cases hok : mayE l ∧ 1 ≤ wd
  · have hok2 := hok
    obtain ⟨hm, hw1⟩ := hok2
    obtain ⟨g1, g2, h3⟩ := last_may hm
    obtain ⟨q, hq⟩ := Int.eq_ofNat_of_zero_le (Int.ediv_nonneg g1 (show 0 ≤ wd by omega))
    by_cases h0 : lastE l = 0
    · repeat' (first | (refine gC F.law29_awake ?_; refine p_call rfl rfl (law29_awake_spec h) ?_; rintro _ w ⟨rfl, h⟩) | (refine gC F.meter_Rates ?_; refine p_call rfl rfl (meter_Rates_spec l wd (by omega) hwd (fun w h => hA _ w h) h) ?_; rintro _ w (⟨hx, _⟩ | ⟨_, (⟨_, rfl, h⟩ | ⟨⟨hx, _⟩, _⟩ | ⟨⟨hx, _⟩, _⟩)⟩); exact absurd hok hx; rotate_left; exact absurd h0 hx; exact absurd h0 hx) | (refine gC F.ref29_May ?_; refine p_call rfl rfl (ref29_May_spec l (by omega) (fun w h => hA _ w h) h) ?_; rintro _ w ⟨(⟨rfl, hb⟩ | ⟨rfl, hb⟩), h⟩; rotate_left; exact absurd hm hb) | refine stP ?_ | (refine stC0_W29r ?_; rintro _ w ⟨rfl, h⟩) | (refine p_cmp rfl rfl rfl rfl (fun hc => ?_) (fun hc => ?_) <;> simp only [cmpProp] at hc) | fail)
      refine x_keep [0, 1, 5, 6, 7, 8, 9] rfl ?_
      refine x_loop_inv (fun lm le w => ∃ (i : Nat), lm = vl - i ∧ i ≤ vl ∧ le = [(0, .slice va vl vc), (1, .int .i64 wd), (5, .slice none 0 0), (6, .int .i64 0), (7, .int .i64 (lastE (l.take i))), (8, .int .i64 (doneE (l.take i))), (9, .int .i64 i)] ∧ Sat S w (G)) (vl) ⟨0, rfl, by omega, rfl, h⟩ ?_
      clear h
      rintro lm le w ⟨i, rfl, hi0, rfl, h⟩ ih
      by_cases hi : i < vl
      · obtain ⟨e, he⟩ := has_elem (show i < l.length by omega)
        obtain ⟨pa, po, rfl⟩ := (hA _ w h).addr (by omega)
        have ht := (h3 e (List.mem_of_getElem? he)).1
        have hln := last_next he
        have hdn := done_next he
        have hdb := done_bnd (l.take i)
        rw [List.length_take] at hdb
        by_cases h0 : e.to = 0
        · rw [if_neg (fun hx => hx h0)] at hdn
          repeat' (first | (refine gL ?_; refine p_val rfl (g_ldF (i := i) (f := 7) (u := .int .i64 e.to) evC_len rfl (hA _ _ h) he rfl (by omega)) ?_) | refine stP ?_ | (refine stC0_W29r ?_; rintro _ w ⟨rfl, h⟩) | (refine p_cmp rfl rfl rfl rfl (fun hc => ?_) (fun hc => ?_) <;> simp only [cmpProp] at hc) | fail)
          exact x_keep [0, 1, 5, 6, 7, 8, 9] rfl (ih _ _ _ (by omega) ⟨i + 1, rfl, by omega, by rw [hln, hdn, Int.add_zero]; rfl, h⟩)
        · rw [if_pos h0] at hdn
          repeat' (first | (refine gL ?_; refine p_val rfl (g_ldF (i := i) (f := 7) (u := .int .i64 e.to) evC_len rfl (hA _ _ h) he rfl (by omega)) ?_) | refine stP ?_ | (refine stC0_W29r ?_; rintro _ w ⟨rfl, h⟩) | (refine p_cmp rfl rfl rfl rfl (fun hc => ?_) (fun hc => ?_) <;> simp only [cmpProp] at hc) | fail)
          exact x_keep [0, 1, 5, 6, 7, 8, 9] rfl (ih _ _ _ (by omega) ⟨i + 1, rfl, by omega, by rw [hln, hdn]; rfl, h⟩)
      rw [List.take_of_length_le (show l.length ≤ i by omega)]
      rw [h0]
      repeat' (first | refine stPs ?_ | (refine stC0_W29r ?_; rintro _ w ⟨rfl, h⟩) | (refine p_cmp rfl rfl rfl rfl (fun hc => ?_) (fun hc => ?_) <;> simp only [cmpProp] at hc) | fail)
      exact x_ret' is_law29_MeterRates rfl ⟨rfl, h.nil⟩
    by_cases hbig : 10000 ≤ lastE l / wd
    · repeat' (first | (refine gC F.law29_awake ?_; refine p_call rfl rfl (law29_awake_spec h) ?_; rintro _ w ⟨rfl, h⟩) | (refine gC F.meter_Rates ?_; refine p_call rfl rfl (meter_Rates_spec l wd (by omega) hwd (fun w h => hA _ w h) h) ?_; rintro _ w (⟨hx, _⟩ | ⟨_, (⟨hx, _⟩ | ⟨_, rfl, h⟩ | ⟨⟨_, hx⟩, _⟩)⟩); exact absurd hok hx; exact absurd hx h0; rotate_left; omega) | (refine gC F.ref29_May ?_; refine p_call rfl rfl (ref29_May_spec l (by omega) (fun w h => hA _ w h) h) ?_; rintro _ w ⟨(⟨rfl, hb⟩ | ⟨rfl, hb⟩), h⟩; rotate_left; exact absurd hm hb) | refine stP ?_ | (refine stC0_W29r ?_; rintro _ w ⟨rfl, h⟩) | (refine p_cmp rfl rfl rfl rfl (fun hc => ?_) (fun hc => ?_) <;> simp only [cmpProp] at hc) | fail)
      refine x_keep [0, 1, 5, 6, 7, 8, 9] rfl ?_
      refine x_loop_inv (fun lm le w => ∃ (i : Nat), lm = vl - i ∧ i ≤ vl ∧ le = [(0, .slice va vl vc), (1, .int .i64 wd), (5, .slice none 0 0), (6, .int .i64 5), (7, .int .i64 (lastE (l.take i))), (8, .int .i64 (doneE (l.take i))), (9, .int .i64 i)] ∧ Sat S w (G)) (vl) ⟨0, rfl, by omega, rfl, h⟩ ?_
      clear h
      rintro lm le w ⟨i, rfl, hi0, rfl, h⟩ ih
      by_cases hi : i < vl
      · obtain ⟨e, he⟩ := has_elem (show i < l.length by omega)
        obtain ⟨pa, po, rfl⟩ := (hA _ w h).addr (by omega)
        have ht := (h3 e (List.mem_of_getElem? he)).1
        have hln := last_next he
        have hdn := done_next he
        have hdb := done_bnd (l.take i)
        rw [List.length_take] at hdb
        by_cases h0 : e.to = 0
        · rw [if_neg (fun hx => hx h0)] at hdn
          repeat' (first | (refine gL ?_; refine p_val rfl (g_ldF (i := i) (f := 7) (u := .int .i64 e.to) evC_len rfl (hA _ _ h) he rfl (by omega)) ?_) | refine stP ?_ | (refine stC0_W29r ?_; rintro _ w ⟨rfl, h⟩) | (refine p_cmp rfl rfl rfl rfl (fun hc => ?_) (fun hc => ?_) <;> simp only [cmpProp] at hc) | fail)
          exact x_keep [0, 1, 5, 6, 7, 8, 9] rfl (ih _ _ _ (by omega) ⟨i + 1, rfl, by omega, by rw [hln, hdn, Int.add_zero]; rfl, h⟩)
        · rw [if_pos h0] at hdn
          repeat' (first | (refine gL ?_; refine p_val rfl (g_ldF (i := i) (f := 7) (u := .int .i64 e.to) evC_len rfl (hA _ _ h) he rfl (by omega)) ?_) | refine stP ?_ | (refine stC0_W29r ?_; rintro _ w ⟨rfl, h⟩) | (refine p_cmp rfl rfl rfl rfl (fun hc => ?_) (fun hc => ?_) <;> simp only [cmpProp] at hc) | fail)
          exact x_keep [0, 1, 5, 6, 7, 8, 9] rfl (ih _ _ _ (by omega) ⟨i + 1, rfl, by omega, by rw [hln, hdn]; rfl, h⟩)
      rw [List.take_of_length_le (show l.length ≤ i by omega)]
      repeat' (first | (refine gB .quo ?_; refine p_val rfl (g_quo_i rfl rfl (by omega) (by omega) (by omega)) ?_) | refine stP ?_ | (refine stC0_W29r ?_; rintro _ w ⟨rfl, h⟩) | (refine p_cmp rfl rfl rfl rfl (fun hc => ?_) (fun hc => ?_) <;> simp only [cmpProp] at hc) | fail)
      all_goals first | exact x_ret' is_law29_MeterRates rfl ⟨rfl, h.nil⟩ | (exfalso; omega)
    · repeat' (first | (refine gC F.law29_awake ?_; refine p_call rfl rfl (law29_awake_spec h) ?_; rintro _ w ⟨rfl, h⟩) | (refine gC F.meter_Rates ?_; refine p_call rfl rfl (meter_Rates_spec l wd (by omega) hwd (fun w h => hA _ w h) h) ?_; rintro _ w (⟨hx, _⟩ | ⟨_, (⟨hx, _⟩ | ⟨⟨_, hx⟩, _⟩ | ⟨_, u, rfl, h⟩)⟩); exact absurd hok hx; exact absurd hx h0; exact absurd hx hbig; obtain ⟨ua, ul, uc, rfl, hul, _⟩ := ownS_slice h .here; rw [ints_length, rates_length, Nat.mul_one] at hul) | (refine gC F.ref29_May ?_; refine p_call rfl rfl (ref29_May_spec l (by omega) (fun w h => hA _ w h) h) ?_; rintro _ w ⟨(⟨rfl, hb⟩ | ⟨rfl, hb⟩), h⟩; rotate_left; exact absurd hm hb) | refine stP ?_ | (refine stC0_W29r ?_; rintro _ w ⟨rfl, h⟩) | (refine p_cmp rfl rfl rfl rfl (fun hc => ?_) (fun hc => ?_) <;> simp only [cmpProp] at hc) | fail)
      rw [hq] at h hul hbig
      obtain rfl : ul = q + 1 := by omega
      have hqn : ((q : Int) + 1).toNat = q + 1 := by omega
      rw [hqn] at h
      refine x_keep [0, 1, 5, 6, 7, 8, 9] rfl ?_
      refine x_loop_inv (fun lm le w => ∃ (i : Nat), lm = vl - i ∧ i ≤ vl ∧ le = [(0, .slice va vl vc), (1, .int .i64 wd), (5, .slice ua (q + 1) uc), (6, .int .i64 0), (7, .int .i64 (lastE (l.take i))), (8, .int .i64 (doneE (l.take i))), (9, .int .i64 i)] ∧ Sat S w (ownS T.int 1 (.slice ua (q + 1) uc) (ints .i64 (ratesE l wd (q + 1))) :: G)) (vl) ⟨0, rfl, by omega, rfl, h⟩ ?_
      clear h
      rintro lm le w ⟨i, rfl, hi0, rfl, h⟩ ih
      by_cases hi : i < vl
      · obtain ⟨e, he⟩ := has_elem (show i < l.length by omega)
        obtain ⟨pa, po, rfl⟩ := (hA _ w h).addr (by omega)
        have ht := (h3 e (List.mem_of_getElem? he)).1
        have hln := last_next he
        have hdn := done_next he
        have hdb := done_bnd (l.take i)
        rw [List.length_take] at hdb
        by_cases h0 : e.to = 0
        · rw [if_neg (fun hx => hx h0)] at hdn
          repeat' (first | (refine gL ?_; refine p_val rfl (g_ldF (i := i) (f := 7) (u := .int .i64 e.to) evC_len rfl (hA _ _ h) he rfl (by omega)) ?_) | refine stP ?_ | (refine stC0_W29r ?_; rintro _ w ⟨rfl, h⟩) | (refine p_cmp rfl rfl rfl rfl (fun hc => ?_) (fun hc => ?_) <;> simp only [cmpProp] at hc) | fail)
          exact x_keep [0, 1, 5, 6, 7, 8, 9] rfl (ih _ _ _ (by omega) ⟨i + 1, rfl, by omega, by rw [hln, hdn, Int.add_zero]; rfl, h⟩)
        · rw [if_pos h0] at hdn
          repeat' (first | (refine gL ?_; refine p_val rfl (g_ldF (i := i) (f := 7) (u := .int .i64 e.to) evC_len rfl (hA _ _ h) he rfl (by omega)) ?_) | refine stP ?_ | (refine stC0_W29r ?_; rintro _ w ⟨rfl, h⟩) | (refine p_cmp rfl rfl rfl rfl (fun hc => ?_) (fun hc => ?_) <;> simp only [cmpProp] at hc) | fail)
          exact x_keep [0, 1, 5, 6, 7, 8, 9] rfl (ih _ _ _ (by omega) ⟨i + 1, rfl, by omega, by rw [hln, hdn]; rfl, h⟩)
      rw [List.take_of_length_le (show l.length ≤ i by omega)]
      have hqd : ∀ e ∈ l, e.to ≠ 0 → 0 ≤ e.to / wd ∧ e.to / wd < (q + 1 : Nat) := fun e he _ => by
        obtain ⟨e0, e1⟩ := h3 e he
        have := Int.ediv_le_ediv (show 0 < wd by omega) e1
        exact ⟨Int.ediv_nonneg e0 (by omega), by rw [hq] at this; omega⟩
      have hsum := rates_sum hqd
      have hdl := done_bnd l
      repeat' (first | (refine gB .quo ?_; refine p_val rfl (g_quo_i rfl rfl (by omega) (by omega) (by omega)) ?_; rw [hq]) | refine stP ?_ | (refine stC0_W29r ?_; rintro _ w ⟨rfl, h⟩) | (refine p_cmp rfl rfl rfl rfl (fun hc => ?_) (fun hc => ?_) <;> simp only [cmpProp] at hc) | fail)
      refine x_keep [0, 1, 5, 8, 10] rfl ?_
      refine x_loop_inv (fun lm le w => ∃ (k : Nat), lm = q + 1 - k ∧ k ≤ q + 1 ∧ le = [(0, .slice va vl vc), (1, .int .i64 wd), (5, .slice ua (q + 1) uc), (8, .int .i64 (doneE l - sumI ((ratesE l wd (q + 1)).take k))), (10, .int .i64 k)] ∧ Sat S w (ownS T.int 1 (.slice ua (q + 1) uc) (ints .i64 (ratesE l wd (q + 1))) :: G)) (q + 1) ⟨0, rfl, by omega, by simp [sumI], h⟩ ?_
      clear h
      rintro lm le w ⟨k, rfl, hi0, rfl, h⟩ ih2
      have hrl := rates_length l wd (q + 1)
      by_cases hk : k < q + 1
      · have hrk := rates_at l wd hk
        have hgk := rates_getD l wd hk
        have hsn := sumI_next hrk
        have hcb := cnt_bnd l wd k
        have hsb : 0 ≤ sumI ((ratesE l wd (q + 1)).take k) ∧ sumI ((ratesE l wd (q + 1)).take k) + cntE l wd k ≤ doneE l := by
          have e1 : ∀ z ∈ ratesE l wd (q + 1), (0 : Int) ≤ z := fun z hz => by
            unfold ratesE at hz
            obtain ⟨x, _, rfl⟩ := List.mem_map.1 hz
            exact (cnt_bnd l wd x).1
          have e2 : ∀ s : List Int, (∀ z ∈ s, (0 : Int) ≤ z) → 0 ≤ sumI s := fun s => by
            induction s with
            | nil => intro _; exact Int.le_refl _
            | cons a s ihs =>
              intro hz
              have := ihs (fun z h => hz z (List.mem_cons_of_mem _ h))
              have := hz a (List.mem_cons_self ..)
              rw [sumI_cons]; omega
          refine ⟨e2 _ (fun z hz => e1 z (List.mem_of_mem_take hz)), ?_⟩
          have e3 := e2 ((ratesE l wd (q + 1)).drop (k + 1)) (fun z hz => e1 z (List.mem_of_mem_drop hz))
          have e4 := sumI_app ((ratesE l wd (q + 1)).take (k + 1)) ((ratesE l wd (q + 1)).drop (k + 1))
          rw [List.take_append_drop] at e4
          omega
        repeat' (first | refine stPs ?_ | (refine stC0_W29r ?_; rintro _ w ⟨rfl, h⟩) | (refine p_cmp rfl rfl rfl rfl (fun hc => ?_) (fun hc => ?_) <;> simp only [cmpProp] at hc) | fail)
        refine x_keep [0, 1, 5, 8, 10, 11, 12] rfl ?_
        refine x_loop_inv (fun lm le w => ∃ (j : Nat), lm = vl - j ∧ j ≤ vl ∧ le = [(0, .slice va vl vc), (1, .int .i64 wd), (5, .slice ua (q + 1) uc), (8, .int .i64 (doneE l - sumI ((ratesE l wd (q + 1)).take k))), (10, .int .i64 k), (11, .int .i64 (cntE (l.take j) wd k)), (12, .int .i64 j)] ∧ Sat S w (ownS T.int 1 (.slice ua (q + 1) uc) (ints .i64 (ratesE l wd (q + 1))) :: G)) (vl) ⟨0, rfl, by omega, rfl, h⟩ ?_
        clear h
        rintro lm le w ⟨j, rfl, hi0, rfl, h⟩ ih3
        by_cases hj : j < vl
        · obtain ⟨e, he⟩ := has_elem (show j < l.length by omega)
          obtain ⟨pa, po, rfl⟩ := (hA _ w h).addr (by omega)
          have ht := h3 e (List.mem_of_getElem? he)
          have hcn := cnt_next he wd k
          have hcj := cnt_bnd (l.take j) wd k
          rw [List.length_take] at hcj
          by_cases hp : e.to ≠ 0 ∧ e.to / wd = k
          · rw [if_pos hp] at hcn
            obtain ⟨hp1, hp2⟩ := hp
            repeat' (first | (refine gL ?_; refine p_val rfl (g_ldF (i := j) (f := 7) (u := .int .i64 e.to) evC_len rfl (hA _ _ h) he rfl (by omega)) ?_) | (refine gB .quo ?_; refine p_val rfl (g_quo_i rfl rfl (by omega) (by omega) (by omega)) ?_) | refine stP ?_ | (refine stC0_W29r ?_; rintro _ w ⟨rfl, h⟩) | (refine p_cmp rfl rfl rfl rfl (fun hc => ?_) (fun hc => ?_) <;> simp only [cmpProp] at hc) | fail)
            exact x_keep [0, 1, 5, 8, 10, 11, 12] rfl (ih3 _ _ _ (by omega) ⟨j + 1, rfl, by omega, by rw [hcn]; rfl, h⟩)
          · rw [if_neg hp, Int.add_zero] at hcn
            by_cases hp1 : e.to = 0
            · repeat' (first | (refine gL ?_; refine p_val rfl (g_ldF (i := j) (f := 7) (u := .int .i64 e.to) evC_len rfl (hA _ _ h) he rfl (by omega)) ?_) | refine stP ?_ | (refine stC0_W29r ?_; rintro _ w ⟨rfl, h⟩) | (refine p_cmp rfl rfl rfl rfl (fun hc => ?_) (fun hc => ?_) <;> simp only [cmpProp] at hc) | fail)
              exact x_keep [0, 1, 5, 8, 10, 11, 12] rfl (ih3 _ _ _ (by omega) ⟨j + 1, rfl, by omega, by rw [hcn]; rfl, h⟩)
            · have hp2 : ¬ e.to / wd = k := fun hx => hp ⟨hp1, hx⟩
              repeat' (first | (refine gL ?_; refine p_val rfl (g_ldF (i := j) (f := 7) (u := .int .i64 e.to) evC_len rfl (hA _ _ h) he rfl (by omega)) ?_) | (refine gB .quo ?_; refine p_val rfl (g_quo_i rfl rfl (by omega) (by omega) (by omega)) ?_) | refine stP ?_ | (refine stC0_W29r ?_; rintro _ w ⟨rfl, h⟩) | (refine p_cmp rfl rfl rfl rfl (fun hc => ?_) (fun hc => ?_) <;> simp only [cmpProp] at hc) | fail)
              exact x_keep [0, 1, 5, 8, 10, 11, 12] rfl (ih3 _ _ _ (by omega) ⟨j + 1, rfl, by omega, by rw [hcn]; rfl, h⟩)
        · rw [List.take_of_length_le (show l.length ≤ j by omega)]
          obtain ⟨ub, rfl⟩ := ownS_addr (E := T.int) h .here (by omega)
          repeat' (first | (refine gL ?_; refine p_val rfl (g_ldI (i := k) (xs := ratesE l wd (q + 1)) rfl (ownS_rd h (by repeat first | exact .here | apply Has.there)) (by omega) (by omega)) ?_; rw [hgk]) | refine stP ?_ | (refine stC0_W29r ?_; rintro _ w ⟨rfl, h⟩) | (refine p_cmp rfl rfl rfl rfl (fun hc => ?_) (fun hc => ?_) <;> simp only [cmpProp] at hc) | fail)
          exact x_keep [0, 1, 5, 8, 10] rfl (ih2 _ _ _ (by omega) ⟨k + 1, rfl, by omega, by rw [hsn, show doneE l - (sumI ((ratesE l wd (q + 1)).take k) + cntE l wd k) = doneE l - sumI ((ratesE l wd (q + 1)).take k) - cntE l wd k by omega]; rfl, h⟩)
      · rw [List.take_of_length_le (show (ratesE l wd (q + 1)).length ≤ k by omega), hsum, Int.sub_self]
        repeat' (first | refine stPs ?_ | (refine stC0_W29r ?_; rintro _ w ⟨rfl, h⟩) | (refine p_cmp rfl rfl rfl rfl (fun hc => ?_) (fun hc => ?_) <;> simp only [cmpProp] at hc) | fail)
        exact x_ret' is_law29_MeterRates rfl ⟨rfl, h.nil⟩
  · repeat' (first | (refine gC F.law29_awake ?_; refine p_call rfl rfl (law29_awake_spec h) ?_; rintro _ w ⟨rfl, h⟩) | (refine gC F.meter_Rates ?_; refine p_call rfl rfl (meter_Rates_spec l wd (by omega) hwd (fun w h => hA _ w h) h) ?_; rintro _ w (⟨_, rfl, h⟩ | ⟨hx, _⟩); rotate_left; exact absurd hx hok) | (refine gC F.ref29_May ?_; refine p_call rfl rfl (ref29_May_spec l (by omega) (fun w h => hA _ w h) h) ?_; rintro _ w ⟨(⟨rfl, hb⟩ | ⟨rfl, hb⟩), h⟩) | refine stP ?_ | (refine stC0_W29r ?_; rintro _ w ⟨rfl, h⟩) | (refine p_cmp rfl rfl rfl rfl (fun hc => ?_) (fun hc => ?_) <;> simp only [cmpProp] at hc) | fail)
    all_goals first | exact x_ret' is_law29_MeterRates rfl ⟨rfl, h.nil⟩ | (exfalso; exact hok ⟨by assumption, by omega⟩)
end
theorem MeterRates_law (a0 : Option Addr) (len0 cap0 : Nat) (a1 : Int) (W : World) (w0 : Arg W (.sl evTy) [.slice a0 len0 cap0]) (w1 : (Lit.int .i64 a1).wf = true) :
    Ret Try.prog F.law29_MeterRates #[.slice a0 len0 cap0, .int .i64 a1] W (fun v w' => v = .bool true ∧ Sat ⟨W.heap.size, W⟩ w' []) := by
  obtain ⟨l, hA⟩ := args_ev w0
  exact law29_MeterRates_spec l a1 (wf_i64 w1).2 hA (Sat.begin W)
end Go.Proofs.Ytojopmkekimpjaa
