/- Layer 29 (meter): the chapter's example. -/
import Derived.Test.YtojopmkekimpjaaHxS
import Derived.Test.YtojopmkekimpjaaL29b
namespace Go.Proofs.Ytojopmkekimpjaa
open Go Go.HX
attribute [local irreducible] Ret XRun XOps XDr XOne Does Gives
set_option maxRecDepth 4000
set_option maxHeartbeats 1000000
theorem stC0_W29 {goal next : Prop} (k : next) (hs : Hid next → goal := by (intro k; (first | (refine gC F.law29_three ?_; refine p_call rfl rfl (law29_three_spec h) ?_) | fail); exact k.out)) : goal := hs ⟨k⟩
theorem stC1_W29 {goal next : Prop} (k : next) (hs : Hid next → goal := by (intro k; (first | (refine gN ?_; refine p_do rfl (d_newL h (by first | (dsimp only [Value.cells]; done) | exact rfl)) ?_) | fail); exact k.out)) : goal := hs ⟨k⟩
theorem stC2_W29 {goal next : Prop} (k : next) (hs : Hid next → goal := by (intro k; (first | (refine gS ?_; (first | refine p_do rfl (d_stwL rfl rfl rfl rfl rfl (h.pick (by repeat first | exact .here | apply Has.there)) (by first | (dsimp only [Value.cells]; done) | exact rfl)) ?_ | refine p_do rfl (d_stL rfl rfl rfl (h.pick (by repeat first | exact .here | apply Has.there)) (by first | exact of_decide_eq_true rfl | simp) (by first | (dsimp only [List.set]; done) | exact rfl)) ?_)) | fail); exact k.out)) : goal := hs ⟨k⟩
def threeE : List EvM := [⟨1, ⟨#[]⟩, ⟨#[]⟩, 0, 0, ⟨#[]⟩, 1, 2⟩, ⟨1, ⟨#[]⟩, ⟨#[]⟩, 0, 0, ⟨#[]⟩, 1, 6⟩, ⟨1, ⟨#[]⟩, ⟨#[]⟩, 0, 0, ⟨#[]⟩, 1, 10⟩]
theorem evC_one (e : EvM) : ∀ u ∈ evC e, u.oneCell' = true := by simp [evC, Value.oneCell']
theorem three_may : mayE threeE := ⟨by decide, by decide⟩
theorem three_waits : sortI (waitsE threeE) = [1, 5, 9] := by decide
theorem three_at {i : Nat} (hi : i < 3) : threeE[i]? = some ⟨1, ⟨#[]⟩, ⟨#[]⟩, 0, 0, ⟨#[]⟩, 1, 2 + 4 * (i : Int)⟩ := by
  rcases i with _ | _ | _ | i
  · rfl
  · rfl
  · rfl
  · omega
section
variable {S : SP} {w : World} {G : List HProp}

set_option maxHeartbeats 4000000 in
theorem law29_three_spec (h : Sat S w G) : Ret Try.prog F.law29_three #[] w (fun u w' => Sat S w' (ownS T.api_Event 8 u (rows evC threeE) :: G)) := by
  refine ret_of is_law29_three rfl ?_
  repeat' (first | refine stPs ?_ | (refine p_cmp rfl rfl rfl rfl (fun hc => ?_) (fun hc => ?_) <;> simp only [cmpProp] at hc) | fail)
  refine p_lit [] rfl rfl rfl rfl rfl rfl h (fun v w h => ?_)
  repeat' (first | refine stPs ?_ | (refine p_cmp rfl rfl rfl rfl (fun hc => ?_) (fun hc => ?_) <;> simp only [cmpProp] at hc) | fail)
  refine x_keep [1, 2] rfl ?_
  refine x_loop_inv (fun lm le w => ∃ (i : Nat), ∃ (v : Value), lm = 3 - i ∧ i ≤ 3 ∧ le = [(1, v), (2, .int .i64 i)] ∧ Sat S w (ownS T.api_Event 8 v (rows evC (threeE.take i)) :: G)) (3) ⟨0, _, rfl, by omega, rfl, h⟩ ?_
  clear h
  rintro lm le w ⟨i, v, rfl, hi0, rfl, h⟩ ih
  obtain ⟨va, vl, vc, rfl, hvl, _⟩ := ownS_slice h .here
  have htl : (threeE.take i).length = i := by rw [List.length_take]; show min i 3 = i; omega
  by_cases hi : i < 3
  · have he := three_at hi
    repeat' (first | (refine p_do rfl (d_lit (evC ⟨1, ⟨#[]⟩, ⟨#[]⟩, 0, 0, ⟨#[]⟩, 1, 2 + 4 * (i : Int)⟩) rfl rfl rfl rfl rfl h) ?_; intro v2 w h) | (refine p_do rfl (d_appR rfl rfl rfl (by decide) (h.pick (.there .here)) (ownS_rd h .here) (evC_one _) (by rw [rows_length evC_len, htl]; simp [evC]; omega) (by rw [rows_length evC_len, htl]; simp [evC]; omega)) ?_; intro v3 w h; rw [← rows_one (enc := evC), ← rows_append, ← take_next he] at h; obtain ⟨_, _, _, rfl, _, _⟩ := ownS_slice h .here) | refine stP ?_ | (refine p_cmp rfl rfl rfl rfl (fun hc => ?_) (fun hc => ?_) <;> simp only [cmpProp] at hc) | fail)
    exact x_keep [1, 2] rfl (ih _ _ _ (by omega) ⟨i + 1, _, rfl, by omega, rfl, h.sub (.cons .here (.skip (by repeat first | exact .refl _ | apply Sub.skip)))⟩)
  · obtain rfl : i = 3 := by omega
    repeat' (first | refine stPs ?_ | (refine p_cmp rfl rfl rfl rfl (fun hc => ?_) (fun hc => ?_) <;> simp only [cmpProp] at hc) | fail)
    exact x_ret' is_law29_three rfl h

set_option maxHeartbeats 4000000 in
theorem law29_awake_spec (h : Sat S w G) : Ret Try.prog F.law29_awake #[] w (fun v w' => v = .bool true ∧ Sat S w' G) := by
  refine ret_of is_law29_awake rfl ?_
  have e1 : shareV (sortI (waitsE threeE)) 9 10 = 9 := by rw [three_waits]; decide
  repeat' (first | (refine gC F.law29_three ?_; refine p_call rfl rfl (law29_three_spec h) ?_; intro u w h) | (refine gC F.meter_Measure ?_; refine p_call rfl rfl (meter_Measure_spec threeE (by decide) (fun w h => ownS_rd h .here) h) ?_; rintro _ w (⟨hx, _⟩ | ⟨_, rfl, h⟩); exact absurd three_may hx; rw [three_waits]) | (refine gC F.meter_Share ?_; refine p_call rfl rfl (meter_Share_spec threeE 9 10 (by decide) (fun w h => ownS_rd h .here) h) ?_; rw [e1]; rintro _ w (⟨hx, _⟩ | ⟨_, rfl, h⟩); exact absurd ⟨three_may, by decide, by decide, by decide⟩ hx) | refine stP ?_ | (refine stC0_W29 ?_; rintro u w h) | (refine stC1_W29 ?_; rintro _ w ⟨bx, rfl, h⟩) | (refine stC2_W29 ?_; rintro _ w ⟨rfl, h⟩) | (refine p_cmp rfl rfl rfl rfl (fun hc => ?_) (fun hc => ?_) <;> simp only [cmpProp] at hc) | fail)
  exact x_ret' is_law29_awake rfl ⟨rfl, h.drop.drop.drop⟩
end
end Go.Proofs.Ytojopmkekimpjaa
