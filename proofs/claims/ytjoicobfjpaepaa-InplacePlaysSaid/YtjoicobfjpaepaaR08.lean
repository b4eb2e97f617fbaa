/- The document's answers of layer 8: what each computes. -/
import Derived.Test.YtjoicobfjpaepaaHxS
import Derived.Test.YtjoicobfjpaepaaP08
namespace Go.Proofs.Ytjoicobfjpaepaa
open Go Go.HX
attribute [local irreducible] Ret XRun XOps XDr XOne Does Gives
set_option maxRecDepth 4000
set_option maxHeartbeats 1000000
section
variable {S : SP} {w : World} {G : List HProp}



theorem ref08_Lengths_spec (k v : Int) (h : Sat S w G) :
    Ret Try.prog F.ref08_Lengths #[.int .i64 k, .int .i64 v] w (fun r w' => r = .tuple #[.int .u64 (lengthsV k v).1, .int .i64 (lengthsV k v).2] ∧ Sat S w' G) := by
  refine ret_of is_ref08_Lengths rfl ?_
  by_cases h1 : k < 0 ∨ v < 0
  · repeat' (first | refine stPs ?_ | (refine p_cmp rfl rfl rfl rfl (fun hc => ?_) (fun hc => ?_) <;> simp only [cmpProp] at hc) | fail)
    all_goals first | (exfalso; omega) | exact x_ret' is_ref08_Lengths rfl ⟨by rw [lengthsV, if_pos h1]; rfl, h⟩
  · by_cases h2 : 64 < k ∨ 128 < v
    · repeat' (first | refine stPs ?_ | (refine p_cmp rfl rfl rfl rfl (fun hc => ?_) (fun hc => ?_) <;> simp only [cmpProp] at hc) | fail)
      all_goals first | (exfalso; omega) | exact x_ret' is_ref08_Lengths rfl ⟨by rw [lengthsV, if_neg h1, if_pos h2]; rfl, h⟩
    · repeat' (first | refine stPs ?_ | (refine p_cmp rfl rfl rfl rfl (fun hc => ?_) (fun hc => ?_) <;> simp only [cmpProp] at hc) | fail)
      all_goals first | (exfalso; omega) | exact x_ret' is_ref08_Lengths rfl ⟨by rw [lengthsV, if_neg h1, if_neg h2]; rfl, h⟩



end
end Go.Proofs.Ytjoicobfjpaepaa