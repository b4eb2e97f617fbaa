/- Layer 8 (header): what each function computes. -/
import Derived.Test.YtjoicobfjpaepaaHxS
import Derived.Test.YtjoicobfjpaepaaP01j
import Derived.Test.YtjoicobfjpaepaaL08
namespace Go.Proofs.Ytjoicobfjpaepaa
open Go Go.HX
attribute [local irreducible] Ret XRun XOps XDr XOne Does Gives
set_option maxRecDepth 4000
set_option maxHeartbeats 1000000
section
variable {S : SP} {w : World} {G : List HProp}

theorem header_Locked_spec (x : Int) (h0 : 0 ≤ x) (h1 : x ≤ 18446744073709551615) (h : Sat S w G) :
    Ret Try.prog F.header_Locked #[.int .u64 x] w (fun v w' => BoolIs v (9223372036854775808 ≤ x) ∧ Sat S w' G) := by
  refine ret_of is_header_Locked rfl ?_
  have e := get_63 h0 h1
  repeat' (first | (refine p_call rfl rfl (field_Flag_spec _ _ h0 h1 h) ?_; rintro _ _ ⟨⟨rfl, hp⟩ | ⟨rfl, hp⟩, h⟩) | refine stP ?_ | fail)
  all_goals refine x_ret' is_header_Locked rfl ⟨?_, h⟩
  all_goals first | exact .t (by omega) | exact .f (by omega)

theorem header_Count_spec (x : Int) (h0 : 0 ≤ x) (h1 : x ≤ 18446744073709551615) (h : Sat S w G) :
    Ret Try.prog F.header_Count #[.int .u64 x] w (fun v w' => v = .int .u64 (x % 4294967296) ∧ Sat S w' G) := by
  refine ret_of is_header_Count rfl ?_
  repeat' (first | (refine p_call rfl rfl (field_Get_spec _ _ _ h0 h1 h) ?_; rintro _ _ ⟨rfl, h⟩) | refine stP ?_ | fail)
  exact x_ret' is_header_Count rfl ⟨by rw [get_count]; rfl, h⟩

theorem header_lock_spec (x : Int) (h0 : 0 ≤ x) (h1 : x ≤ 18446744073709551615) (h : Sat S w G) :
    Ret Try.prog F.header_lock #[.int .u64 x] w (fun v w' => BoolIs v (x / 4294967296 % 2147483648 = 0) ∧ Sat S w' G) := by
  refine ret_of is_header_lock rfl ?_
  repeat' (first | (refine p_call rfl rfl (field_Get_spec _ _ _ h0 h1 h) ?_; rintro _ _ ⟨rfl, h⟩; rw [get_lock]) | refine stP ?_ | (refine p_cmp rfl rfl rfl rfl (fun hc => ?_) (fun hc => ?_) <;> simp only [cmpProp] at hc) | fail)
  all_goals refine x_ret' is_header_lock rfl ⟨?_, h⟩
  all_goals first | exact .t (by omega) | exact .f (by omega)

theorem header_Lock_spec (x : Int) (h0 : 0 ≤ x) (h1 : x ≤ 18446744073709551615) (h : Sat S w G) :
    Ret Try.prog F.header_Lock #[.int .u64 x] w (fun v w' => v = .tuple #[.int .u64 (lockV x).1, .int .i64 (lockV x).2] ∧ Sat S w' G) := by
  refine ret_of is_header_Lock rfl ?_
  repeat' (first | (refine p_call rfl rfl (header_lock_spec _ h0 h1 h) ?_; rintro _ _ ⟨⟨rfl, hl⟩ | ⟨rfl, hl⟩, h⟩) | (refine p_call rfl rfl (header_Locked_spec _ h0 h1 h) ?_; rintro _ _ ⟨⟨rfl, hp⟩ | ⟨rfl, hp⟩, h⟩) | (refine p_call rfl rfl (field_Set_spec _ _ true h0 h1 h) ?_; rintro _ _ ⟨rfl, h⟩) | refine stP ?_ | fail)
  · exact x_ret' is_header_Lock rfl ⟨by rw [lockV, if_neg (by omega), if_pos hp]; rfl, h⟩
  · exact x_ret' is_header_Lock rfl ⟨by rw [lockV, if_neg (by omega), if_neg hp, set_63 h0 (by omega)]; rfl, h⟩
  · exact x_ret' is_header_Lock rfl ⟨by rw [lockV, if_pos hl]; rfl, h⟩

theorem header_Unlock_spec (x : Int) (h0 : 0 ≤ x) (h1 : x ≤ 18446744073709551615) (h : Sat S w G) :
    Ret Try.prog F.header_Unlock #[.int .u64 x] w (fun v w' => v = .tuple #[.int .u64 (unlockV x).1, .int .i64 (unlockV x).2] ∧ Sat S w' G) := by
  refine ret_of is_header_Unlock rfl ?_
  have hm := most_32
  repeat' (first | (refine p_call rfl rfl (header_lock_spec _ h0 h1 h) ?_; rintro _ _ ⟨⟨rfl, hl⟩ | ⟨rfl, hl⟩, h⟩) | (refine p_call rfl rfl (header_Locked_spec _ h0 h1 h) ?_; rintro _ _ ⟨⟨rfl, hp⟩ | ⟨rfl, hp⟩, h⟩) | (refine p_call rfl rfl (header_Count_spec _ h0 h1 h) ?_; rintro _ _ ⟨rfl, h⟩) | (refine p_call rfl rfl (field_Most_spec _ h) ?_; rintro _ _ ⟨rfl, h⟩) | refine stP ?_ | fail)
  · refine x_ret' is_header_Unlock rfl ⟨?_, h⟩
    rw [unlockV, if_neg (by omega), if_neg (by omega)]
    show Value.tuple #[Value.int .u64 _, _] = _
    rw [show mostZ 32 = (2 : Int) ^ 32 - 1 from rfl, and_low 32 (by omega)]
    rfl
  · exact x_ret' is_header_Unlock rfl ⟨by rw [unlockV, if_neg (by omega), if_pos (by omega)]; rfl, h⟩
  · exact x_ret' is_header_Unlock rfl ⟨by rw [unlockV, if_pos hl]; rfl, h⟩

theorem header_Lengths_spec (k v : Int) (h : Sat S w G) :
    Ret Try.prog F.header_Lengths #[.int .i64 k, .int .i64 v] w (fun r w' => r = .tuple #[.int .u64 (lengthsV k v).1, .int .i64 (lengthsV k v).2] ∧ Sat S w' G) := by
  refine ret_of is_header_Lengths rfl ?_
  by_cases h1 : k < 0 ∨ v < 0
  · repeat' (first | refine stPs ?_ | (refine p_cmp rfl rfl rfl rfl (fun hc => ?_) (fun hc => ?_) <;> simp only [cmpProp] at hc) | fail)
    all_goals first | (exfalso; omega) | exact x_ret' is_header_Lengths rfl ⟨by rw [lengthsV, if_pos h1]; rfl, h⟩
  · by_cases h2 : 64 < k ∨ 128 < v
    · repeat' (first | refine stPs ?_ | (refine p_cmp rfl rfl rfl rfl (fun hc => ?_) (fun hc => ?_) <;> simp only [cmpProp] at hc) | fail)
      all_goals first | (exfalso; omega) | exact x_ret' is_header_Lengths rfl ⟨by rw [lengthsV, if_neg h1, if_pos h2]; rfl, h⟩
    · repeat' (first | refine stPs ?_ | (refine p_cmp rfl rfl rfl rfl (fun hc => ?_) (fun hc => ?_) <;> simp only [cmpProp] at hc) | fail)
      refine p_lit [.int .u64 k, .int .u64 v, .int .u64 44203] rfl rfl rfl rfl rfl rfl h (fun v1 w h => ?_)
      refine p_lit [.int .i64 16, .int .i64 16, .int .i64 16] rfl rfl rfl rfl rfl rfl h (fun v2 w h => ?_)
      refine p_call rfl rfl (field_Join_spec [k, v, 44203] [16, 16, 16] (by decide) ?_ ?_ (fun w h => ownS_rd h (.there .here)) (fun w h => ownS_rd h .here) h) ?_
      · intro i
        rcases i with _ | _ | _ | i <;> simp
      · intro i
        rcases i with _ | _ | _ | i <;> simp <;> omega
      · rintro _ w ⟨rfl, h⟩
        rw [if_pos ⟨rfl, by decide⟩, join_lengths (by omega) (by omega) (by omega) (by omega)]
        repeat' (first | refine stPs ?_ | (refine p_cmp rfl rfl rfl rfl (fun hc => ?_) (fun hc => ?_) <;> simp only [cmpProp] at hc) | fail)
        exact x_ret' is_header_Lengths rfl ⟨by rw [lengthsV, if_neg h1, if_neg h2]; rfl, h.drop.drop⟩



end
end Go.Proofs.Ytjoicobfjpaepaa