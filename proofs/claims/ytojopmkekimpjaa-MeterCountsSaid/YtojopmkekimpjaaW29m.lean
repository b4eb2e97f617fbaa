/- Layer 29 (meter): the laws MeterMeasures and MeterBetween. -/
import Derived.Test.YtojopmkekimpjaaHxS
import Derived.Test.YtojopmkekimpjaaW29
namespace Go.Proofs.Ytojopmkekimpjaa
open Go Go.HX
attribute [local irreducible] Ret XRun XOps XDr XOne Does Gives
set_option maxRecDepth 4000
set_option maxHeartbeats 1000000
theorem stC0_W29m {goal next : Prop} (k : next) (hs : Hid next → goal := by (intro k; (first | (refine gC F.law29_awake ?_; refine p_call rfl rfl (law29_awake_spec h) ?_) | (refine gS ?_; (first | refine p_do rfl (d_stwL rfl rfl rfl rfl rfl (h.pick (by repeat first | exact .here | apply Has.there)) (by first | (dsimp only [Value.cells]; done) | exact rfl)) ?_ | refine p_do rfl (d_stL rfl rfl rfl (h.pick (by repeat first | exact .here | apply Has.there)) (by first | exact of_decide_eq_true rfl | simp) (by first | (dsimp only [List.set]; done) | exact rfl)) ?_)) | fail); exact k.out)) : goal := hs ⟨k⟩
theorem stC1_W29m {goal next : Prop} (k : next) (hs : Hid next → goal := by (intro k; (first | (refine gN ?_; refine p_do rfl (d_newL h (by first | (dsimp only [Value.cells]; done) | exact rfl)) ?_) | fail); exact k.out)) : goal := hs ⟨k⟩
section
variable {S : SP} {w : World} {G : List HProp}

set_option maxHeartbeats 8000000 in
theorem law29_MeterMeasures_spec {v1 : Value} (l : List EvM) (hA : Old S 8 v1 (rows evC l)) (h : Sat S w G) :
    Ret Try.prog F.law29_MeterMeasures #[v1] w (fun v w' => v = .bool true ∧ Sat S w' []) := by
  obtain ⟨va, vl, vc, rfl, _⟩ := hA _ w h
  have hvl := (hA _ w h).rlen evC_len (by decide)
  refine ret_of is_law29_MeterMeasures rfl ?_
  by_cases h100 : 100 < vl
  · repeat' (first | (refine gC F.law29_awake ?_; refine p_call rfl rfl (law29_awake_spec h) ?_; rintro _ w ⟨rfl, h⟩) | refine stP ?_ | (refine stC0_W29m ?_; rintro _ w ⟨rfl, h⟩) | (refine stC1_W29m ?_; rintro _ w ⟨bx, rfl, h⟩) | (refine p_cmp rfl rfl rfl rfl (fun hc => ?_) (fun hc => ?_) <;> simp only [cmpProp] at hc) | refine p_eqa rfl rfl rfl rfl rfl rfl (fun hc => ?_) (fun hc => ?_) | (refine r_cmp rfl rfl rfl rfl rfl (fun hc => ?_) (fun hc => ?_) <;> simp only [cmpProp] at hc) | refine r_eqa rfl rfl rfl rfl rfl rfl rfl (fun hc => ?_) (fun hc => ?_) | (refine x_drawn rfl ?_; have h := h.drew) | refine x_drawn rfl ?_ | fail)
    exact x_ret' is_law29_MeterMeasures rfl ⟨rfl, h.nil⟩
  by_cases hm : mayE l
  · repeat' (first | (refine gC F.law29_awake ?_; refine p_call rfl rfl (law29_awake_spec h) ?_; rintro _ w ⟨rfl, h⟩) | (refine gC F.meter_Measure ?_; refine p_call rfl rfl (meter_Measure_spec l (by omega) (fun w h => hA _ w h) h) ?_; rintro _ w (⟨hx, _⟩ | ⟨_, rfl, h⟩); exact absurd hm hx) | (refine gC F.ref29_May ?_; refine p_call rfl rfl (ref29_May_spec l (by omega) (fun w h => hA _ w h) h) ?_; rintro _ w ⟨(⟨rfl, hb⟩ | ⟨rfl, hb⟩), h⟩; rotate_left; exact absurd hm hb) | (refine gCR F.ref29_Measure ?_; refine r_call rfl rfl rfl (ref29_Measure_spec l (by omega) hm (fun w h => hA _ w h) h) ?_; rintro _ w ⟨rfl, h⟩; refine nowa ?_) | refine stP ?_ | (refine stC0_W29m ?_; rintro _ w ⟨rfl, h⟩) | (refine stC1_W29m ?_; rintro _ w ⟨bx, rfl, h⟩) | (refine p_cmp rfl rfl rfl rfl (fun hc => ?_) (fun hc => ?_) <;> simp only [cmpProp] at hc) | refine p_eqa rfl rfl rfl rfl rfl rfl (fun hc => ?_) (fun hc => ?_) | (refine r_cmp rfl rfl rfl rfl rfl (fun hc => ?_) (fun hc => ?_) <;> simp only [cmpProp] at hc) | refine r_eqa rfl rfl rfl rfl rfl rfl rfl (fun hc => ?_) (fun hc => ?_) | (refine x_drawn rfl ?_; have h := h.drew) | refine x_drawn rfl ?_ | fail)
    all_goals first | exact x_ret' is_law29_MeterMeasures rfl ⟨rfl, h.nil⟩ | (exfalso; exact hc (by simp [sumI]))
  · repeat' (first | (refine gC F.law29_awake ?_; refine p_call rfl rfl (law29_awake_spec h) ?_; rintro _ w ⟨rfl, h⟩) | (refine gC F.meter_Measure ?_; refine p_call rfl rfl (meter_Measure_spec l (by omega) (fun w h => hA _ w h) h) ?_; rintro _ w (⟨_, rfl, h⟩ | ⟨hx, _⟩); rotate_left; exact absurd hx hm) | (refine gC F.ref29_May ?_; refine p_call rfl rfl (ref29_May_spec l (by omega) (fun w h => hA _ w h) h) ?_; rintro _ w ⟨(⟨rfl, hb⟩ | ⟨rfl, hb⟩), h⟩; exact absurd hb hm) | refine stP ?_ | (refine stC0_W29m ?_; rintro _ w ⟨rfl, h⟩) | (refine stC1_W29m ?_; rintro _ w ⟨bx, rfl, h⟩) | (refine p_cmp rfl rfl rfl rfl (fun hc => ?_) (fun hc => ?_) <;> simp only [cmpProp] at hc) | refine p_eqa rfl rfl rfl rfl rfl rfl (fun hc => ?_) (fun hc => ?_) | (refine r_cmp rfl rfl rfl rfl rfl (fun hc => ?_) (fun hc => ?_) <;> simp only [cmpProp] at hc) | refine r_eqa rfl rfl rfl rfl rfl rfl rfl (fun hc => ?_) (fun hc => ?_) | (refine x_drawn rfl ?_; have h := h.drew) | refine x_drawn rfl ?_ | fail)
    all_goals first | exact x_ret' is_law29_MeterMeasures rfl ⟨rfl, h.nil⟩ | (exfalso; exact hc (by simp [sumI]))

set_option maxHeartbeats 8000000 in
theorem law29_MeterBetween_spec {v1 : Value} (l : List EvM) (hA : Old S 8 v1 (rows evC l)) (h : Sat S w G) :
    Ret Try.prog F.law29_MeterBetween #[v1] w (fun v w' => v = .bool true ∧ Sat S w' []) := by
  obtain ⟨va, vl, vc, rfl, _⟩ := hA _ w h
  have hvl := (hA _ w h).rlen evC_len (by decide)
  refine ret_of is_law29_MeterBetween rfl ?_
  by_cases h200 : 200 < vl
  · repeat' (first | (refine gC F.law29_awake ?_; refine p_call rfl rfl (law29_awake_spec h) ?_; rintro _ w ⟨rfl, h⟩) | refine stP ?_ | (refine stC0_W29m ?_; rintro _ w ⟨rfl, h⟩) | (refine stC1_W29m ?_; rintro _ w ⟨bx, rfl, h⟩) | (refine p_cmp rfl rfl rfl rfl (fun hc => ?_) (fun hc => ?_) <;> simp only [cmpProp] at hc) | fail)
    exact x_ret' is_law29_MeterBetween rfl ⟨rfl, h.nil⟩
  by_cases hm : mayE l
  · obtain ⟨w1, w2, w3⟩ := wide_bnd hm.1
    obtain ⟨b1, b2, b3, b4⟩ := between_law (sortI_sorted (waitsE l))
    have hwl := (sortI_perm (waitsE l)).length_eq
    have hwl2 := waits_length l
    have hsb : ∀ z ∈ sortI (waitsE l), 1 ≤ z ∧ z ≤ 999999999 := fun z hz => waits_bnd hm z ((sortI_perm _).mem_iff.1 hz)
    have hgd : ∀ i, 0 ≤ (sortI (waitsE l)).getD i 0 ∧ (sortI (waitsE l)).getD i 0 ≤ 999999999 := fun i => by
      rw [List.getD_eq_getElem?_getD]
      cases hz : (sortI (waitsE l))[i]? with
      | none => exact ⟨Int.le_refl _, by decide⟩
      | some z => have := hsb z (List.mem_of_getElem? hz); exact ⟨by show 0 ≤ z; omega, by show z ≤ _; omega⟩
    have g0 := hgd 0
    have g1 := hgd ((sortI (waitsE l)).length - 1)
    have g2 := hgd (((sortI (waitsE l)).length - 1) / 2)
    have m1 : 0 ≤ ((sortI (waitsE l)).length : Int) * (sortI (waitsE l)).getD 0 0 ∧ ((sortI (waitsE l)).length : Int) * (sortI (waitsE l)).getD 0 0 ≤ 200 * 999999999 := ⟨Int.mul_nonneg (by omega) g0.1, Int.mul_le_mul (by omega) g0.2 g0.1 (by decide)⟩
    have m2 : 0 ≤ ((sortI (waitsE l)).length : Int) * (sortI (waitsE l)).getD ((sortI (waitsE l)).length - 1) 0 ∧ ((sortI (waitsE l)).length : Int) * (sortI (waitsE l)).getD ((sortI (waitsE l)).length - 1) 0 ≤ 200 * 999999999 := ⟨Int.mul_nonneg (by omega) g1.1, Int.mul_le_mul (by omega) g1.2 g1.1 (by decide)⟩
    repeat' (first | (refine gC F.law29_awake ?_; refine p_call rfl rfl (law29_awake_spec h) ?_; rintro _ w ⟨rfl, h⟩) | (refine gC F.meter_Measure ?_; refine p_call rfl rfl (meter_Measure_spec l (by omega) (fun w h => hA _ w h) h) ?_; rintro _ w (⟨hx, _⟩ | ⟨_, rfl, h⟩); exact absurd hm hx) | refine stP ?_ | (refine stC0_W29m ?_; rintro _ w ⟨rfl, h⟩) | (refine stC1_W29m ?_; rintro _ w ⟨bx, rfl, h⟩) | (refine p_cmp rfl rfl rfl rfl (fun hc => ?_) (fun hc => ?_) <;> simp only [cmpProp] at hc) | fail)
    all_goals first | exact x_ret' is_law29_MeterBetween rfl ⟨rfl, h.nil⟩ | (exfalso; omega)
  · repeat' (first | (refine gC F.law29_awake ?_; refine p_call rfl rfl (law29_awake_spec h) ?_; rintro _ w ⟨rfl, h⟩) | (refine gC F.meter_Measure ?_; refine p_call rfl rfl (meter_Measure_spec l (by omega) (fun w h => hA _ w h) h) ?_; rintro _ w (⟨_, rfl, h⟩ | ⟨hx, _⟩); rotate_left; exact absurd hx hm) | refine stP ?_ | (refine stC0_W29m ?_; rintro _ w ⟨rfl, h⟩) | (refine stC1_W29m ?_; rintro _ w ⟨bx, rfl, h⟩) | (refine p_cmp rfl rfl rfl rfl (fun hc => ?_) (fun hc => ?_) <;> simp only [cmpProp] at hc) | fail)
    exact x_ret' is_law29_MeterBetween rfl ⟨rfl, h.nil⟩
end
end Go.Proofs.Ytojopmkekimpjaa
