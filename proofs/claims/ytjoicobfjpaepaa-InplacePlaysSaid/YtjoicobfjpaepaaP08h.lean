/- Layer 8 (header): packing. -/
import Derived.Test.YtjoicobfjpaepaaHxS
import Derived.Test.YtjoicobfjpaepaaP08
namespace Go.Proofs.Ytjoicobfjpaepaa
open Go Go.HX
attribute [local irreducible] Ret XRun XOps XDr XOne Does Gives
set_option maxRecDepth 4000
set_option maxHeartbeats 1000000
def packV (p : Int) (t i : Bool) : Int × Int := if 281474976710655 < p then (0, 1) else (p + (if t = true then 281474976710656 else 0) + (if i = true then 562949953421312 else 0), 0)
theorem join_head {p a b : Int} (p0 : 0 ≤ p) (p1 : p ≤ 281474976710655) (a0 : 0 ≤ a) (a1 : a ≤ 1) (b0 : 0 ≤ b) (b1 : b ≤ 1) : joinV 0 0 [p, a, b] [48, 1, 1] = (p + a * 281474976710656 + b * 562949953421312, 0) := by
  have m48 : mostZ 48 = 281474976710655 := rfl
  have m1 : mostZ 1 = 1 := rfl
  have e1 : putV 0 0 48 p = (p, 0) := by
    rw [putV_next (by decide) (by decide) (by decide) (by omega)]
    congr 1
    show 0 + p * 1 = p
    omega
  have e2 : putV p 48 1 a = (p + a * 281474976710656, 0) := putV_next (by decide) p0 (by show p < 281474976710656; omega) (by omega)
  have e3 : putV (p + a * 281474976710656) 49 1 b = (p + a * 281474976710656 + b * 562949953421312, 0) := putV_next (by decide) (by omega) (by show _ < (562949953421312 : Int); omega) (by omega)
  rw [joinV, e1, if_pos rfl, joinV, show ((0 : Int) + 48) = 48 from rfl, e2, if_pos rfl, joinV, show ((48 : Int) + 1) = 49 from rfl, e3, if_pos rfl, joinV]
  all_goals simp
section
variable {S : SP} {w : World} {G : List HProp}





theorem ref08_Pack_spec (p : Int) (t i : Bool) (p0 : 0 ≤ p) (h : Sat S w G) :
    Ret Try.prog F.ref08_Pack #[.agg #[.int .u64 p, .bool t, .bool i]] w (fun v w' => v = .tuple #[.int .u64 (packV p t i).1, .int .i64 (packV p t i).2] ∧ Sat S w' G) := by
  refine ret_of is_ref08_Pack rfl ?_
  by_cases hp : 281474976710655 < p
  · repeat' (first | (refine p_do rfl (d_box rfl h) ?_; rintro _ w ⟨b3, rfl, h⟩) | refine stP ?_ | (refine p_cmp rfl rfl rfl rfl (fun hc => ?_) (fun hc => ?_) <;> simp only [cmpProp] at hc) | fail)
    exact x_ret' is_ref08_Pack rfl ⟨by rw [packV, if_pos hp]; rfl, h.drop⟩
  · rw [packV, if_neg hp]
    cases t <;> cases i
    · repeat' (first | (refine p_do rfl (d_box rfl h) ?_; rintro _ w ⟨b3, rfl, h⟩) | refine stP ?_ | (refine p_cmp rfl rfl rfl rfl (fun hc => ?_) (fun hc => ?_) <;> simp only [cmpProp] at hc) | fail)
      exact x_ret' is_ref08_Pack rfl ⟨by simp; rfl, h.drop⟩
    · repeat' (first | (refine p_do rfl (d_box rfl h) ?_; rintro _ w ⟨b3, rfl, h⟩) | refine stP ?_ | (refine p_cmp rfl rfl rfl rfl (fun hc => ?_) (fun hc => ?_) <;> simp only [cmpProp] at hc) | fail)
      exact x_ret' is_ref08_Pack rfl ⟨by simp; rfl, h.drop⟩
    · repeat' (first | (refine p_do rfl (d_box rfl h) ?_; rintro _ w ⟨b3, rfl, h⟩) | refine stP ?_ | (refine p_cmp rfl rfl rfl rfl (fun hc => ?_) (fun hc => ?_) <;> simp only [cmpProp] at hc) | fail)
      exact x_ret' is_ref08_Pack rfl ⟨by simp; rfl, h.drop⟩
    · repeat' (first | (refine p_do rfl (d_box rfl h) ?_; rintro _ w ⟨b3, rfl, h⟩) | refine stP ?_ | (refine p_cmp rfl rfl rfl rfl (fun hc => ?_) (fun hc => ?_) <;> simp only [cmpProp] at hc) | fail)
      exact x_ret' is_ref08_Pack rfl ⟨by simp; rfl, h.drop⟩
end
end Go.Proofs.Ytjoicobfjpaepaa
