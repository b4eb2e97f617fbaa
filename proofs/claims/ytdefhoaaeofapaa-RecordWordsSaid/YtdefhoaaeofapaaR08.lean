/- The document's answers of layer 8: what each computes. -/
import Derived.Test.YtdefhoaaeofapaaP08
namespace Go.Proofs.Ytdefhoaaeofapaa
open Go Go.HX
attribute [local irreducible] Ret XRun XOps XDr XOne Does Gives
set_option maxRecDepth 4000
set_option maxHeartbeats 1000000
section
variable {S : SP} {w : World} {G : List HProp}



theorem ref08_Lengths_spec (k v : Int) (h : Sat S w G) :
    Ret Try.prog F.ref08_Lengths #[.int .i64 k, .int .i64 v] w (fun r w' => r = .tuple #[.int .u64 (lengthsV k v).1, .int .i64 (lengthsV k v).2] ∧ Sat S w' G) := by
  refine ret_of is_ref08_Lengths rfl ?_
  by_cases h1 : k < 0 ∨ v < 0
  · repeat' (first | (refine gO ?_; refine p_skip rfl ?_) | (refine gO ?_; first | refine p_val rfl (gives_pure rfl) ?_ | (refine gB .add ?_; first | refine p_val rfl (g_add_i rfl rfl (by omega) (by omega)) ?_ | refine p_val rfl (g_add_u rfl rfl (by omega) (by omega)) ?_) | (refine gB .mul ?_; first | refine p_val rfl (g_mul_i rfl rfl (by omega) (by omega)) ?_ | refine p_val rfl (g_mul_u rfl rfl (by omega) (by omega)) ?_) | (refine gB _ ?_; first | refine p_cmp_t rfl rfl rfl rfl (by first | exact rfl | (simp only [cmpProp]; omega) | decide) ?_ | refine p_cmp_f rfl rfl rfl rfl (by first | exact rfl | (simp only [cmpProp]; omega) | decide) ?_ | (refine p_cmp rfl rfl rfl rfl (fun hc => ?_) (fun hc => ?_) <;> simp only [cmpProp] at hc)) | refine p_val rfl (g_conv_i rfl (by omega) (by omega)) ?_ | refine p_val rfl (g_conv_u rfl (by omega) (by omega)) ?_) | refine x_nil ?_ | (refine gX ?_; first | refine x_seq ?_ | refine x_ops ?_ | refine x_cond_t rfl ?_ | refine x_cond_f rfl ?_ | refine x_skip ?_))
    all_goals first | (exfalso; omega) | exact x_ret' is_ref08_Lengths rfl ⟨by rw [lengthsV, if_pos h1]; rfl, h⟩
  · by_cases h2 : 64 < k ∨ 128 < v
    · repeat' (first | (refine gO ?_; refine p_skip rfl ?_) | (refine gO ?_; first | refine p_val rfl (gives_pure rfl) ?_ | (refine gB .add ?_; first | refine p_val rfl (g_add_i rfl rfl (by omega) (by omega)) ?_ | refine p_val rfl (g_add_u rfl rfl (by omega) (by omega)) ?_) | (refine gB .mul ?_; first | refine p_val rfl (g_mul_i rfl rfl (by omega) (by omega)) ?_ | refine p_val rfl (g_mul_u rfl rfl (by omega) (by omega)) ?_) | (refine gB _ ?_; first | refine p_cmp_t rfl rfl rfl rfl (by first | exact rfl | (simp only [cmpProp]; omega) | decide) ?_ | refine p_cmp_f rfl rfl rfl rfl (by first | exact rfl | (simp only [cmpProp]; omega) | decide) ?_ | (refine p_cmp rfl rfl rfl rfl (fun hc => ?_) (fun hc => ?_) <;> simp only [cmpProp] at hc)) | refine p_val rfl (g_conv_i rfl (by omega) (by omega)) ?_ | refine p_val rfl (g_conv_u rfl (by omega) (by omega)) ?_) | refine x_nil ?_ | (refine gX ?_; first | refine x_seq ?_ | refine x_ops ?_ | refine x_cond_t rfl ?_ | refine x_cond_f rfl ?_ | refine x_skip ?_))
      all_goals first | (exfalso; omega) | exact x_ret' is_ref08_Lengths rfl ⟨by rw [lengthsV, if_neg h1, if_pos h2]; rfl, h⟩
    · repeat' (first | (refine gO ?_; refine p_skip rfl ?_) | (refine gO ?_; first | refine p_val rfl (gives_pure rfl) ?_ | (refine gB .add ?_; first | refine p_val rfl (g_add_i rfl rfl (by omega) (by omega)) ?_ | refine p_val rfl (g_add_u rfl rfl (by omega) (by omega)) ?_) | (refine gB .mul ?_; first | refine p_val rfl (g_mul_i rfl rfl (by omega) (by omega)) ?_ | refine p_val rfl (g_mul_u rfl rfl (by omega) (by omega)) ?_) | (refine gB _ ?_; first | refine p_cmp_t rfl rfl rfl rfl (by first | exact rfl | (simp only [cmpProp]; omega) | decide) ?_ | refine p_cmp_f rfl rfl rfl rfl (by first | exact rfl | (simp only [cmpProp]; omega) | decide) ?_ | (refine p_cmp rfl rfl rfl rfl (fun hc => ?_) (fun hc => ?_) <;> simp only [cmpProp] at hc)) | refine p_val rfl (g_conv_i rfl (by omega) (by omega)) ?_ | refine p_val rfl (g_conv_u rfl (by omega) (by omega)) ?_) | refine x_nil ?_ | (refine gX ?_; first | refine x_seq ?_ | refine x_ops ?_ | refine x_cond_t rfl ?_ | refine x_cond_f rfl ?_ | refine x_skip ?_))
      all_goals first | (exfalso; omega) | exact x_ret' is_ref08_Lengths rfl ⟨by rw [lengthsV, if_neg h1, if_neg h2]; rfl, h⟩



end
end Go.Proofs.Ytdefhoaaeofapaa