/- The document's answers of layer 2: what each computes. -/
import Derived.Test.YtfchenbihepjaaaHxS
import Derived.Test.YtfchenbihepjaaaP02
namespace Go.Proofs.Ytfchenbihepjaaa
open Go Go.HX
attribute [local irreducible] Ret XRun XOps XDr XOne Does Gives
set_option maxRecDepth 4000
set_option maxHeartbeats 1000000
theorem size_bounds (bits : Int) : 0 ≤ sizeZ bits ∧ sizeZ bits ≤ 512 := by
  have := size_cases bits
  omega
theorem pageZ_bounds {bits a : Int} (h0 : 0 ≤ a) : 0 ≤ pageZ bits a ∧ pageZ bits a ≤ 281474976710655 := by
  unfold pageZ
  split
  · rcases size_cases bits with ⟨_, h⟩ | ⟨_, h⟩ | ⟨_, h⟩ | ⟨_, h⟩ | ⟨_, h⟩ | ⟨_, h⟩ <;> rw [h] <;> omega
  · omega
theorem offZ_bounds {bits a : Int} : 0 ≤ offZ bits a ∧ offZ bits a ≤ 512 := by
  unfold offZ
  split
  · rcases size_cases bits with ⟨_, h⟩ | ⟨_, h⟩ | ⟨_, h⟩ | ⟨_, h⟩ | ⟨_, h⟩ | ⟨_, h⟩ <;> rw [h] <;> omega
  · omega
section
variable {S : SP} {w : World} {G : List HProp}

theorem ref02_Page_spec (bits a : Int) (h0 : 0 ≤ a) (h1 : a ≤ 18446744073709551615) (h : Sat S w G) :
    Ret Try.prog F.ref02_Page #[.int .i64 bits, .int .u64 a] w (fun v w' => v = .int .i64 (pageZ bits a) ∧ Sat S w' G) := by
  refine ret_of is_ref02_Page rfl ?_
  have hz := size_bounds bits
  by_cases hq : 0 < sizeZ bits ∧ a ≤ 281474976710655
  · have hp := pageZ_bounds (bits := bits) h0
    have e : pageZ bits a = a / sizeZ bits := by rw [pageZ, if_pos hq]
    rw [e] at hp ⊢
    repeat' (first | (refine p_call rfl rfl (ref02_Size_spec _ h) ?_; rintro _ _ ⟨rfl, h⟩) | refine stP ?_ | (refine p_cmp rfl rfl rfl rfl (fun hc => ?_) (fun hc => ?_) <;> simp only [cmpProp] at hc) | fail)
    exact x_ret' is_ref02_Page rfl ⟨rfl, h⟩
  · repeat' (first | (refine p_call rfl rfl (ref02_Size_spec _ h) ?_; rintro _ _ ⟨rfl, h⟩) | refine stP ?_ | (refine p_cmp rfl rfl rfl rfl (fun hc => ?_) (fun hc => ?_) <;> simp only [cmpProp] at hc) | fail)
    all_goals first | (exfalso; omega) | exact x_ret' is_ref02_Page rfl ⟨by rw [pageZ, if_neg hq]; rfl, h⟩

theorem ref02_Offset_spec (bits a : Int) (h0 : 0 ≤ a) (h1 : a ≤ 18446744073709551615) (h : Sat S w G) :
    Ret Try.prog F.ref02_Offset #[.int .i64 bits, .int .u64 a] w (fun v w' => v = .int .i64 (offZ bits a) ∧ Sat S w' G) := by
  refine ret_of is_ref02_Offset rfl ?_
  have hz := size_bounds bits
  by_cases hq : 0 < sizeZ bits ∧ a ≤ 281474976710655
  · have hp := offZ_bounds (bits := bits) (a := a)
    have e : offZ bits a = a % sizeZ bits := by rw [offZ, if_pos hq]
    rw [e] at hp ⊢
    repeat' (first | (refine p_call rfl rfl (ref02_Size_spec _ h) ?_; rintro _ _ ⟨rfl, h⟩) | refine stP ?_ | (refine p_cmp rfl rfl rfl rfl (fun hc => ?_) (fun hc => ?_) <;> simp only [cmpProp] at hc) | fail)
    exact x_ret' is_ref02_Offset rfl ⟨rfl, h⟩
  · repeat' (first | (refine p_call rfl rfl (ref02_Size_spec _ h) ?_; rintro _ _ ⟨rfl, h⟩) | refine stP ?_ | (refine p_cmp rfl rfl rfl rfl (fun hc => ?_) (fun hc => ?_) <;> simp only [cmpProp] at hc) | fail)
    all_goals first | (exfalso; omega) | exact x_ret' is_ref02_Offset rfl ⟨by rw [offZ, if_neg hq]; rfl, h⟩

theorem ref02_Room_spec (bits a : Int) (h0 : 0 ≤ a) (h1 : a ≤ 18446744073709551615) (h : Sat S w G) :
    Ret Try.prog F.ref02_Room #[.int .i64 bits, .int .u64 a] w (fun v w' => v = .int .i64 (roomZ bits a) ∧ Sat S w' G) := by
  refine ret_of is_ref02_Room rfl ?_
  have hz := size_bounds bits
  have ho := offZ_bounds (bits := bits) (a := a)
  repeat' (first | (refine p_call rfl rfl (ref02_Size_spec _ h) ?_; rintro _ _ ⟨rfl, h⟩) | (refine p_call rfl rfl (ref02_Offset_spec _ _ h0 h1 h) ?_; rintro _ _ ⟨rfl, h⟩) | refine stP ?_ | (refine p_cmp rfl rfl rfl rfl (fun hc => ?_) (fun hc => ?_) <;> simp only [cmpProp] at hc) | fail)
  all_goals refine x_ret' is_ref02_Room rfl ⟨?_, h⟩
  all_goals first | (rw [roomZ, if_pos (by omega), offZ, if_pos (by omega)]; rfl) | (rw [roomZ, if_neg (by omega)]; rfl)



end
end Go.Proofs.Ytfchenbihepjaaa