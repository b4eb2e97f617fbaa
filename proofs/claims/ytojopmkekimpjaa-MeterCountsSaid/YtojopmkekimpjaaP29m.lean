/- Layer 29 (meter): measures, shares. -/
import Derived.Test.YtojopmkekimpjaaHxS
import Derived.Test.YtojopmkekimpjaaP29w
import Derived.Test.YtojopmkekimpjaaR29c
namespace Go.Proofs.Ytojopmkekimpjaa
open Go Go.HX
attribute [local irreducible] Ret XRun XOps XDr XOne Does Gives
set_option maxRecDepth 4000
set_option maxHeartbeats 1000000
theorem stC0_P29m {goal next : Prop} (k : next) (hs : Hid next → goal := by (intro k; (first | (refine gN ?_; refine p_do rfl (d_newL h (by first | (dsimp only [Value.cells]; done) | exact rfl)) ?_) | fail); exact k.out)) : goal := hs ⟨k⟩
theorem stC1_P29m {goal next : Prop} (k : next) (hs : Hid next → goal := by (intro k; (first | (refine gS ?_; (first | refine p_do rfl (d_stwL rfl rfl rfl rfl rfl (h.pick (by repeat first | exact .here | apply Has.there)) (by first | (dsimp only [Value.cells]; done) | exact rfl)) ?_ | refine p_do rfl (d_stL rfl rfl rfl (h.pick (by repeat first | exact .here | apply Has.there)) (by first | exact of_decide_eq_true rfl | simp) (by first | (dsimp only [List.set]; done) | exact rfl)) ?_)) | fail); exact k.out)) : goal := hs ⟨k⟩
theorem stD2_P29m {goal next : Prop} (k : next) (hs : Hid next → goal := by (intro k; (first | (refine gSR ?_; (first | refine r_do rfl rfl (d_stwL rfl rfl rfl rfl rfl (h.pick (by repeat first | exact .here | apply Has.there)) (by first | (dsimp only [Value.cells]; done) | exact rfl)) ?_ | refine r_do rfl rfl (d_stL rfl rfl rfl (h.pick (by repeat first | exact .here | apply Has.there)) (by first | exact of_decide_eq_true rfl | simp) (by first | (dsimp only [List.set]; done) | exact rfl)) ?_)) | fail); exact k.out)) : goal := hs ⟨k⟩
def shareV (s : List Int) (part of : Int) : Int := s.getD (max ((part * s.length + of - 1) / of - 1) 0).toNat 0
theorem share_bnd {part of : Int} {n : Nat} (h0 : 0 ≤ part) (h1 : part ≤ of) (h2 : 1 ≤ of) : 0 ≤ part * (n : Int) ∧ part * (n : Int) ≤ of * n ∧ 0 ≤ (part * (n : Int) + of - 1) / of ∧ (part * (n : Int) + of - 1) / of ≤ n := by
  have h3 : 0 ≤ part * (n : Int) := Int.mul_nonneg h0 (by omega)
  have h4 : part * (n : Int) ≤ of * n := Int.mul_le_mul_of_nonneg_right h1 (by omega)
  refine ⟨h3, h4, Int.ediv_nonneg (by omega) (by omega), ?_⟩
  have h5 : part * (n : Int) + of - 1 < ((n : Int) + 1) * of := by
    rw [Int.add_mul, Int.one_mul, Int.mul_comm (n : Int) of]
    omega
  have := Int.ediv_lt_of_lt_mul (show 0 < of by omega) h5
  omega
section
variable {S : SP} {w : World} {G : List HProp}

set_option maxHeartbeats 8000000 in
theorem meter_Measure_spec {v : Value} (l : List EvM) (hl : l.length ≤ 1000) (hr : ∀ w, Sat S w G → RdS w 8 v (rows evC l)) (h : Sat S w G) :
    Ret Try.prog F.meter_Measure #[v] w (fun u w' => (¬ mayE l ∧ u = .tuple #[.agg (measC [] 0 0).toArray, .int .i64 1] ∧ Sat S w' G) ∨ (mayE l ∧ u = .tuple #[.agg (measC (sortI (waitsE l)) l.length (wideN l l : Nat)).toArray, .int .i64 0] ∧ Sat S w' G)) := by
  obtain ⟨a, len, cap, rfl, _⟩ := hr w h
  have hlen := (hr w h).rlen evC_len (by decide)
  have hwl := (sortI_perm (waitsE l)).length_eq
  have hwl2 := waits_length l
  refine ret_of is_meter_Measure rfl ?_
  by_cases hm : mayE l
  · have hsb : ∀ z ∈ sortI (waitsE l), 1 ≤ z ∧ z ≤ 999999999 := fun z hz => waits_bnd hm z ((sortI_perm _).mem_iff.1 hz)
    repeat' (first | (refine gC F.meter_may ?_; refine p_call rfl rfl (meter_may_spec l (by omega) (fun w h => hr w h.drop) h) ?_; rintro _ w ⟨(⟨rfl, hb⟩ | ⟨rfl, hb⟩), h⟩; rotate_left; exact absurd hm hb; obtain ⟨q2, rfl⟩ : ∃ q, q = bx := ⟨bx, rfl⟩) | (refine gC F.meter_waits ?_; refine p_call rfl rfl (meter_waits_spec l (by omega) hm (fun w h => hr w h.drop) h) ?_; intro u w h; generalize hse : sortI (waitsE l) = s at *; obtain ⟨sa, sl, sc, rfl, hsl, _⟩ := ownS_slice h .here; rw [ints_length, Nat.mul_one] at hsl) | (refine gC F.meter_wide ?_; refine p_call rfl rfl (meter_wide_spec l (by omega) hm (fun w h => hr w h.drop.drop) h) ?_; rintro _ w ⟨rfl, h⟩; rcases Nat.eq_zero_or_pos sl with hv | hv) | refine stP ?_ | (refine stC0_P29m ?_; rintro _ w ⟨bx, rfl, h⟩) | (refine stC1_P29m ?_; rintro _ w ⟨rfl, h⟩) | (refine stD2_P29m ?_; rintro _ w ⟨rfl, h⟩ <;> refine nowa ?_) | (refine p_cmp rfl rfl rfl rfl (fun hc => ?_) (fun hc => ?_) <;> simp only [cmpProp] at hc) | (refine r_cmp rfl rfl rfl rfl rfl (fun hc => ?_) (fun hc => ?_) <;> simp only [cmpProp] at hc) | (refine x_drawn rfl ?_; have h := h.drew) | refine x_drawn rfl ?_ | fail)
    · subst hv
      obtain rfl : s = [] := List.eq_nil_of_length_eq_zero hsl
      repeat' (first | refine stPs ?_ | (refine stC0_P29m ?_; rintro _ w ⟨bx, rfl, h⟩) | (refine stC1_P29m ?_; rintro _ w ⟨rfl, h⟩) | (refine stD2_P29m ?_; rintro _ w ⟨rfl, h⟩ <;> refine nowa ?_) | (refine p_cmp rfl rfl rfl rfl (fun hc => ?_) (fun hc => ?_) <;> simp only [cmpProp] at hc) | (refine r_cmp rfl rfl rfl rfl rfl (fun hc => ?_) (fun hc => ?_) <;> simp only [cmpProp] at hc) | (refine x_drawn rfl ?_; have h := h.drew) | refine x_drawn rfl ?_ | fail)
      refine x_retc1 is_meter_Measure rfl rfl h (by kernel_rfl) rfl (.inr ⟨hm, ?_, h.drop.drop.drop⟩)
      rw [← hlen]
      rfl
    · obtain ⟨sb, rfl⟩ := ownS_addr (E := T.int) h (.there .here) hv
      obtain ⟨q4, rfl⟩ : ∃ q, q = bx := ⟨bx, rfl⟩
      have hb := sum_bnd hsb
      have hmid : (sl - 1) / 2 < sl := by omega
      repeat' (first | (refine gLR ?_; first | (refine r_own rfl rfl rfl (h.sub (.cons (.there .here) (.nil _))) (fun w h => g_ldI (i := 0) (xs := s) rfl (ownS_rd h .here) (by omega) (by omega)) ?_) | (refine r_own rfl rfl rfl (h.sub (.cons (.there .here) (.nil _))) (fun w h => g_ldI (i := sl - 1) (xs := s) rfl (ownS_rd h .here) (by omega) (by omega)) ?_) | (refine r_own rfl rfl rfl (h.sub (.cons (.there .here) (.nil _))) (fun w h => g_ldI (i := (sl - 1) / 2) (xs := s) rfl (ownS_rd h .here) (by omega) (by omega)) ?_)) | (refine gR .quo ?_; refine r_pure rfl rfl rfl (fun _ => g_quo_i rfl rfl (by omega) (by omega) (by omega)) ?_) | refine stP ?_ | (refine stC0_P29m ?_; rintro _ w ⟨bx, rfl, h⟩) | (refine stC1_P29m ?_; rintro _ w ⟨rfl, h⟩) | (refine stD2_P29m ?_; rintro _ w ⟨rfl, h⟩ <;> refine nowa ?_) | (refine p_cmp rfl rfl rfl rfl (fun hc => ?_) (fun hc => ?_) <;> simp only [cmpProp] at hc) | (refine r_cmp rfl rfl rfl rfl rfl (fun hc => ?_) (fun hc => ?_) <;> simp only [cmpProp] at hc) | (refine x_drawn rfl ?_; have h := h.drew) | refine x_drawn rfl ?_ | fail)
      refine x_keep [2, 5, 47, 48, 49] rfl ?_
      refine x_loop_inv (fun lm le w => ∃ (k : Nat), lm = sl - k ∧ k ≤ sl ∧ le = [(2, .pointer (some ⟨q2, 0, none⟩)), (5, .pointer (some ⟨q4, 0, none⟩)), (47, .slice (some ⟨sb, 0, none⟩) sl sc), (48, .int .i64 sl), (49, .int .i64 k)] ∧ Sat S w (pt q4 (.cells #[.int .i64 sl, .int .i64 (len - sl), .int .i64 (s.getD 0 0), .int .i64 (s.getD (sl - 1) 0), .int .i64 (sumI (s.take k)), .int .i64 (s.getD ((sl - 1) / 2) 0), .int .i64 (wideN l l : Nat)] T.api_Waits (0, 0)) :: ownS T.int 1 (.slice (some ⟨sb, 0, none⟩) sl sc) (ints .i64 s) :: pt q2 (.cells #[.int .i64 0, .int .i64 0, .int .i64 0, .int .i64 0, .int .i64 0, .int .i64 0, .int .i64 0] T.api_Waits (0, 0)) :: G)) (sl) ⟨0, rfl, by omega, rfl, h.pm3⟩ ?_
      clear h
      rintro lm le w ⟨k, rfl, hi0, rfl, h⟩ ih
      by_cases hk : k < sl
      · obtain ⟨z, hz⟩ := has_elem (show k < s.length by omega)
        have hgz : s.getD k 0 = z := by rw [List.getD_eq_getElem?_getD, hz]; rfl
        have hzb := hsb z (List.mem_of_getElem? hz)
        have hn := sumI_next hz
        have hb1 := hb k
        repeat' (first | (refine gL ?_; refine p_val rfl (g_ldI (i := k) (xs := s) rfl (ownS_rd h (by repeat first | exact .here | apply Has.there)) (by omega) (by omega)) ?_; rw [hgz]) | refine stP ?_ | (refine stC0_P29m ?_; rintro _ w ⟨bx, rfl, h⟩) | (refine stC1_P29m ?_; rintro _ w ⟨rfl, h⟩) | (refine stD2_P29m ?_; rintro _ w ⟨rfl, h⟩ <;> refine nowa ?_) | (refine p_cmp rfl rfl rfl rfl (fun hc => ?_) (fun hc => ?_) <;> simp only [cmpProp] at hc) | (refine r_cmp rfl rfl rfl rfl rfl (fun hc => ?_) (fun hc => ?_) <;> simp only [cmpProp] at hc) | (refine x_drawn rfl ?_; have h := h.drew) | refine x_drawn rfl ?_ | fail)
        rw [← hn] at h
        exact x_keep [2, 5, 47, 48, 49] rfl (ih _ _ _ (by omega) ⟨k + 1, rfl, by omega, rfl, h.pm3⟩)
      · obtain rfl : k = sl := by omega
        rw [List.take_of_length_le (by omega)] at h
        repeat' (first | refine stPs ?_ | (refine stC0_P29m ?_; rintro _ w ⟨bx, rfl, h⟩) | (refine stC1_P29m ?_; rintro _ w ⟨rfl, h⟩) | (refine stD2_P29m ?_; rintro _ w ⟨rfl, h⟩ <;> refine nowa ?_) | (refine p_cmp rfl rfl rfl rfl (fun hc => ?_) (fun hc => ?_) <;> simp only [cmpProp] at hc) | (refine r_cmp rfl rfl rfl rfl rfl (fun hc => ?_) (fun hc => ?_) <;> simp only [cmpProp] at hc) | (refine x_drawn rfl ?_; have h := h.drew) | refine x_drawn rfl ?_ | fail)
        refine x_retc1 is_meter_Measure rfl rfl h (by kernel_rfl) rfl (.inr ⟨hm, ?_, h.drop.drop.drop⟩)
        unfold measC
        rw [show s.length = k by omega, ← hlen]
  · repeat' (first | (refine gC F.meter_may ?_; refine p_call rfl rfl (meter_may_spec l (by omega) (fun w h => hr w h.drop) h) ?_; rintro _ w ⟨(⟨rfl, hb⟩ | ⟨rfl, hb⟩), h⟩; exact absurd hb hm) | refine stP ?_ | (refine stC0_P29m ?_; rintro _ w ⟨bx, rfl, h⟩) | (refine stC1_P29m ?_; rintro _ w ⟨rfl, h⟩) | (refine stD2_P29m ?_; rintro _ w ⟨rfl, h⟩ <;> refine nowa ?_) | (refine p_cmp rfl rfl rfl rfl (fun hc => ?_) (fun hc => ?_) <;> simp only [cmpProp] at hc) | (refine r_cmp rfl rfl rfl rfl rfl (fun hc => ?_) (fun hc => ?_) <;> simp only [cmpProp] at hc) | (refine x_drawn rfl ?_; have h := h.drew) | refine x_drawn rfl ?_ | fail)
    exact x_retc1 is_meter_Measure rfl rfl h (by kernel_rfl) rfl (.inl ⟨hm, rfl, h.drop⟩)

set_option maxHeartbeats 8000000 in
theorem meter_Share_spec {v : Value} (l : List EvM) (part of : Int) (hl : l.length ≤ 1000) (hr : ∀ w, Sat S w G → RdS w 8 v (rows evC l)) (h : Sat S w G) :
    Ret Try.prog F.meter_Share #[v, .int .i64 part, .int .i64 of] w (fun u w' => (¬ (mayE l ∧ (1 ≤ of ∧ of ≤ 1000) ∧ 0 ≤ part ∧ part ≤ of) ∧ u = .tuple #[.int .i64 0, .int .i64 1] ∧ Sat S w' G) ∨ ((mayE l ∧ (1 ≤ of ∧ of ≤ 1000) ∧ 0 ≤ part ∧ part ≤ of) ∧ u = .tuple #[.int .i64 (shareV (sortI (waitsE l)) part of), .int .i64 0] ∧ Sat S w' G)) := by
  obtain ⟨a, len, cap, rfl, _⟩ := hr w h
  have hlen := (hr w h).rlen evC_len (by decide)
  have hwl := (sortI_perm (waitsE l)).length_eq
  have hwl2 := waits_length l
  refine ret_of is_meter_Share rfl ?_
  by_cases hok : mayE l ∧ (1 ≤ of ∧ of ≤ 1000) ∧ 0 ≤ part ∧ part ≤ of
  · have hok2 := hok
    obtain ⟨hm, ⟨o1, o2⟩, p1, p2⟩ := hok2
    repeat' (first | (refine gC F.meter_may ?_; refine p_call rfl rfl (meter_may_spec l (by omega) hr h) ?_; rintro _ w ⟨(⟨rfl, hb⟩ | ⟨rfl, hb⟩), h⟩; rotate_left; exact absurd hm hb) | (refine gC F.meter_waits ?_; refine p_call rfl rfl (meter_waits_spec l (by omega) hm hr h) ?_; intro u w h; generalize hse : sortI (waitsE l) = s at *; obtain ⟨sa, sl, sc, rfl, hsl, _⟩ := ownS_slice h .here; rw [ints_length, Nat.mul_one] at hsl; rcases Nat.eq_zero_or_pos sl with hv | hv) | refine stP ?_ | (refine p_cmp rfl rfl rfl rfl (fun hc => ?_) (fun hc => ?_) <;> simp only [cmpProp] at hc) | fail)
    · subst hv
      obtain rfl : s = [] := List.eq_nil_of_length_eq_zero hsl
      repeat' (first | refine stPs ?_ | (refine p_cmp rfl rfl rfl rfl (fun hc => ?_) (fun hc => ?_) <;> simp only [cmpProp] at hc) | fail)
      exact x_ret' is_meter_Share rfl (.inr ⟨hok, rfl, h.drop⟩)
    · obtain ⟨sb, rfl⟩ := ownS_addr (E := T.int) h .here hv
      obtain ⟨b1, b2, b3, b4⟩ := share_bnd (n := sl) p1 p2 o1
      have b5 : of * (sl : Int) ≤ 1000000 := by
        have := Int.mul_le_mul o2 (show (sl : Int) ≤ 1000 by omega) (by omega) (by decide)
        omega
      obtain ⟨j, hj⟩ := Int.eq_ofNat_of_zero_le (show 0 ≤ max ((part * (sl : Int) + of - 1) / of - 1) 0 by omega)
      have hv2 : shareV s part of = s.getD j 0 := by
        unfold shareV
        rw [hsl, hj]
        rfl
      repeat' (first | (refine gB .quo ?_; refine p_val rfl (g_quo_i rfl rfl (by omega) (by omega) (by omega)) ?_) | (refine gL ?_; refine p_val rfl (g_ldI (i := j) (xs := s) rfl (ownS_rd h (by repeat first | exact .here | apply Has.there)) (by omega) (by omega)) ?_; rw [← hv2]) | refine stP ?_ | (refine p_cmp rfl rfl rfl rfl (fun hc => ?_) (fun hc => ?_) <;> simp only [cmpProp] at hc) | fail)
      exact x_ret' is_meter_Share rfl (.inr ⟨hok, rfl, h.drop⟩)
  · repeat' (first | (refine gC F.meter_may ?_; refine p_call rfl rfl (meter_may_spec l (by omega) hr h) ?_; rintro _ w ⟨(⟨rfl, hb⟩ | ⟨rfl, hb⟩), h⟩) | refine stP ?_ | (refine p_cmp rfl rfl rfl rfl (fun hc => ?_) (fun hc => ?_) <;> simp only [cmpProp] at hc) | fail)
    all_goals first | (exfalso; exact hok ⟨by assumption, by omega⟩) | exact x_ret' is_meter_Share rfl (.inl ⟨hok, rfl, h⟩)
end
end Go.Proofs.Ytojopmkekimpjaa
