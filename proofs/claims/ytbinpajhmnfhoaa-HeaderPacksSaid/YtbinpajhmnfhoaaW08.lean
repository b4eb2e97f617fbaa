/- The laws of layer 8: each answers true. -/
import Derived.Test.YtbinpajhmnfhoaaR08
namespace Go.Proofs.Ytbinpajhmnfhoaa
open Go Go.HX
attribute [local irreducible] Ret XRun XOps XDr XOne Does Gives
set_option maxRecDepth 4000
set_option maxHeartbeats 1000000
theorem lockV_bounds {x : Int} (h0 : 0 ≤ x) (h1 : x ≤ 18446744073709551615) : 0 ≤ (lockV x).1 ∧ (lockV x).1 ≤ 18446744073709551615 := by
  unfold lockV
  split
  · simp
  · split
    · simp
    · simp; omega
theorem lengthsV_bounds (k v : Int) : 0 ≤ (lengthsV k v).1 ∧ (lengthsV k v).1 ≤ 18446744073709551615 := by
  unfold lengthsV
  split
  · simp
  · split
    · simp
    · simp; omega
section
variable {S : SP} {w : World} {G : List HProp}

theorem law08_awake_spec (h : Sat S w G) : Ret Try.prog F.law08_awake #[] w (fun v w' => v = .bool true ∧ Sat S w' G) := by
  refine ret_of is_law08_awake rfl ?_
  have e1 : lengthsV 3 8 = (189850439909379, 0) := by rw [lengthsV]; rfl
  repeat' (first | (refine gO ?_; refine p_skip rfl ?_) | (refine p_call rfl rfl (header_Lengths_spec _ _ h) ?_; rintro _ w ⟨rfl, h⟩; rw [e1]) | (refine gO ?_; first | refine p_val rfl (gives_pure rfl) ?_ | (refine gB _ ?_; first | refine p_cmp_t rfl rfl rfl rfl (by first | exact rfl | (simp only [cmpProp]; omega) | decide) ?_ | refine p_cmp_f rfl rfl rfl rfl (by first | exact rfl | (simp only [cmpProp]; omega) | decide) ?_ | (refine p_cmp rfl rfl rfl rfl (fun hc => ?_) (fun hc => ?_) <;> simp only [cmpProp] at hc))) | refine x_nil ?_ | (refine gX ?_; first | refine x_seq ?_ | refine x_ops ?_ | refine x_skip ?_))
  exact x_ret' is_law08_awake rfl ⟨rfl, h⟩

theorem law08_HeaderLocks_spec (x : Int) (h0 : 0 ≤ x) (h1 : x ≤ 18446744073709551615) (h : Sat S w G) :
    Ret Try.prog F.law08_HeaderLocks #[.int .u64 x] w (fun v w' => v = .bool true ∧ Sat S w' G) := by
  refine ret_of is_law08_HeaderLocks rfl ?_
  repeat' (first | (refine gO ?_; refine p_skip rfl ?_) | (refine p_call rfl rfl (law08_awake_spec h) ?_; rintro _ w ⟨rfl, h⟩) | (refine gO ?_; first | refine p_val rfl (gives_pure rfl) ?_ | (refine gB .add ?_; first | refine p_val rfl (g_add_i rfl rfl (by omega) (by omega)) ?_ | refine p_val rfl (g_add_u rfl rfl (by omega) (by omega)) ?_) | (refine gB .rem ?_; first | refine p_val rfl (g_rem_i rfl rfl (by omega) (by omega)) ?_) | (refine gB _ ?_; first | refine p_cmp_t rfl rfl rfl rfl (by first | exact rfl | (simp only [cmpProp]; omega) | decide) ?_ | refine p_cmp_f rfl rfl rfl rfl (by first | exact rfl | (simp only [cmpProp]; omega) | decide) ?_ | (refine p_cmp rfl rfl rfl rfl (fun hc => ?_) (fun hc => ?_) <;> simp only [cmpProp] at hc))) | refine x_nil ?_ | (refine gX ?_; first | refine x_seq ?_ | refine x_ops ?_ | refine x_cond_t rfl ?_ | refine x_cond_f rfl ?_ | refine x_skip ?_))
  refine p_call rfl rfl (ref08_Lock_spec x h0 h1 h) ?_
  rintro _ w ⟨⟨a, b, ha, hb, rfl⟩, h⟩
  by_cases hm : x / 4294967296 % 2147483648 = 0
  · by_cases hw : 9223372036854775808 ≤ x
    · obtain rfl := ha.eq_t hm
      obtain rfl := hb.eq_t hw
      have e1 : lockV x = (0, 10) := by rw [lockV, if_neg (by omega), if_pos hw]
      have e2 : unlockV x = ((x % 4294967296 + 1) % 4294967296, 0) := by rw [unlockV, if_neg (by omega), if_neg (by omega)]
      repeat' (first | (refine gO ?_; refine p_skip rfl ?_) | (refine p_call rfl rfl (header_Lock_spec _ h0 h1 h) ?_; rintro _ w ⟨rfl, h⟩; rw [e1]) | (refine p_call rfl rfl (header_Unlock_spec _ h0 h1 h) ?_; rintro _ w ⟨rfl, h⟩; rw [e2]) | (refine p_call rfl rfl (header_Locked_spec _ h0 h1 h) ?_; rintro _ w ⟨⟨rfl, hp⟩ | ⟨rfl, hp⟩, h⟩) | (refine p_call rfl rfl (header_Count_spec _ h0 h1 h) ?_; rintro _ w ⟨rfl, h⟩) | contradiction | (refine gO ?_; first | refine p_val rfl (gives_pure rfl) ?_ | (refine gB .add ?_; first | refine p_val rfl (g_add_i rfl rfl (by omega) (by omega)) ?_ | refine p_val rfl (g_add_u rfl rfl (by omega) (by omega)) ?_) | (refine gB .rem ?_; first | refine p_val rfl (g_rem_i rfl rfl (by omega) (by omega)) ?_) | (refine gB _ ?_; first | refine p_cmp_t rfl rfl rfl rfl (by first | exact rfl | (simp only [cmpProp]; omega) | decide) ?_ | refine p_cmp_f rfl rfl rfl rfl (by first | exact rfl | (simp only [cmpProp]; omega) | decide) ?_ | (refine p_cmp rfl rfl rfl rfl (fun hc => ?_) (fun hc => ?_) <;> simp only [cmpProp] at hc))) | refine x_nil ?_ | (refine gX ?_; first | refine x_seq ?_ | refine x_ops ?_ | refine x_cond_t rfl ?_ | refine x_cond_f rfl ?_ | refine x_skip ?_))
      all_goals exact x_ret' is_law08_HeaderLocks rfl ⟨rfl, h⟩
    · obtain rfl := ha.eq_t hm
      obtain rfl := hb.eq_f hw
      have e1 : lockV x = (x + 9223372036854775808, 0) := by rw [lockV, if_neg (by omega), if_neg hw]
      have e2 : unlockV x = (0, 7) := by rw [unlockV, if_neg (by omega), if_pos (by omega)]
      repeat' (first | (refine gO ?_; refine p_skip rfl ?_) | (refine p_call rfl rfl (header_Lock_spec _ h0 h1 h) ?_; rintro _ w ⟨rfl, h⟩; rw [e1]) | (refine p_call rfl rfl (header_Unlock_spec _ h0 h1 h) ?_; rintro _ w ⟨rfl, h⟩; rw [e2]) | (refine p_call rfl rfl (header_Locked_spec _ h0 h1 h) ?_; rintro _ w ⟨⟨rfl, hp⟩ | ⟨rfl, hp⟩, h⟩) | (refine p_call rfl rfl (header_Count_spec _ h0 h1 h) ?_; rintro _ w ⟨rfl, h⟩) | contradiction | (refine gO ?_; first | refine p_val rfl (gives_pure rfl) ?_ | (refine gB .add ?_; first | refine p_val rfl (g_add_i rfl rfl (by omega) (by omega)) ?_ | refine p_val rfl (g_add_u rfl rfl (by omega) (by omega)) ?_) | (refine gB .rem ?_; first | refine p_val rfl (g_rem_i rfl rfl (by omega) (by omega)) ?_) | (refine gB _ ?_; first | refine p_cmp_t rfl rfl rfl rfl (by first | exact rfl | (simp only [cmpProp]; omega) | decide) ?_ | refine p_cmp_f rfl rfl rfl rfl (by first | exact rfl | (simp only [cmpProp]; omega) | decide) ?_ | (refine p_cmp rfl rfl rfl rfl (fun hc => ?_) (fun hc => ?_) <;> simp only [cmpProp] at hc))) | refine x_nil ?_ | (refine gX ?_; first | refine x_seq ?_ | refine x_ops ?_ | refine x_cond_t rfl ?_ | refine x_cond_f rfl ?_ | refine x_skip ?_))
      all_goals exact x_ret' is_law08_HeaderLocks rfl ⟨rfl, h⟩
  · obtain rfl := ha.eq_f hm
    have e1 : lockV x = (0, 4) := by rw [lockV, if_pos hm]
    have e2 : unlockV x = (0, 4) := by rw [unlockV, if_pos hm]
    rcases hb with ⟨rfl, hb⟩ | ⟨rfl, hb⟩
    all_goals
      repeat' (first | (refine gO ?_; refine p_skip rfl ?_) | (refine p_call rfl rfl (header_Lock_spec _ h0 h1 h) ?_; rintro _ w ⟨rfl, h⟩; rw [e1]) | (refine p_call rfl rfl (header_Unlock_spec _ h0 h1 h) ?_; rintro _ w ⟨rfl, h⟩; rw [e2]) | (refine p_call rfl rfl (header_Locked_spec _ h0 h1 h) ?_; rintro _ w ⟨⟨rfl, hp⟩ | ⟨rfl, hp⟩, h⟩) | (refine p_call rfl rfl (header_Count_spec _ h0 h1 h) ?_; rintro _ w ⟨rfl, h⟩) | contradiction | (refine gO ?_; first | refine p_val rfl (gives_pure rfl) ?_ | (refine gB .add ?_; first | refine p_val rfl (g_add_i rfl rfl (by omega) (by omega)) ?_ | refine p_val rfl (g_add_u rfl rfl (by omega) (by omega)) ?_) | (refine gB .rem ?_; first | refine p_val rfl (g_rem_i rfl rfl (by omega) (by omega)) ?_) | (refine gB _ ?_; first | refine p_cmp_t rfl rfl rfl rfl (by first | exact rfl | (simp only [cmpProp]; omega) | decide) ?_ | refine p_cmp_f rfl rfl rfl rfl (by first | exact rfl | (simp only [cmpProp]; omega) | decide) ?_ | (refine p_cmp rfl rfl rfl rfl (fun hc => ?_) (fun hc => ?_) <;> simp only [cmpProp] at hc))) | refine x_nil ?_ | (refine gX ?_; first | refine x_seq ?_ | refine x_ops ?_ | refine x_cond_t rfl ?_ | refine x_cond_f rfl ?_ | refine x_skip ?_))
    all_goals exact x_ret' is_law08_HeaderLocks rfl ⟨rfl, h⟩

theorem law08_HeaderTurns_spec (x : Int) (h0 : 0 ≤ x) (h1 : x ≤ 4294967295) (h : Sat S w G) :
    Ret Try.prog F.law08_HeaderTurns #[.int .u32 x] w (fun v w' => v = .bool true ∧ Sat S w' G) := by
  refine ret_of is_law08_HeaderTurns rfl ?_
  have e1 : lockV x = (x + 9223372036854775808, 0) := by rw [lockV, if_neg (by omega), if_neg (by omega)]
  have e2 : lockV (x + 9223372036854775808) = (0, 10) := by rw [lockV, if_neg (by omega), if_pos (by omega)]
  have e3 : unlockV (x + 9223372036854775808) = ((x + 1) % 4294967296, 0) := by
    rw [unlockV, if_neg (by omega), if_neg (by omega)]
    congr 1
    omega
  repeat' (first | (refine gO ?_; refine p_skip rfl ?_) | (refine p_call rfl rfl (law08_awake_spec h) ?_; rintro _ w ⟨rfl, h⟩) | (refine gO ?_; first | refine p_val rfl (gives_pure rfl) ?_ | (refine gB .add ?_; first | refine p_val rfl (g_add_i rfl rfl (by omega) (by omega)) ?_ | refine p_val rfl (g_add_u rfl rfl (by omega) (by omega)) ?_) | (refine gB _ ?_; first | refine p_cmp_t rfl rfl rfl rfl (by first | exact rfl | (simp only [cmpProp]; omega) | decide) ?_ | refine p_cmp_f rfl rfl rfl rfl (by first | exact rfl | (simp only [cmpProp]; omega) | decide) ?_ | (refine p_cmp rfl rfl rfl rfl (fun hc => ?_) (fun hc => ?_) <;> simp only [cmpProp] at hc)) | refine p_val rfl (g_conv_i rfl (by omega) (by omega)) ?_ | refine p_val rfl (g_conv_u rfl (by omega) (by omega)) ?_) | refine x_nil ?_ | (refine gX ?_; first | refine x_seq ?_ | refine x_ops ?_ | refine x_cond_t rfl ?_ | refine x_cond_f rfl ?_ | refine x_skip ?_))
  refine p_call rfl rfl (header_Lock_spec x h0 (by omega) h) ?_
  rintro _ w ⟨rfl, h⟩
  rw [e1]
  repeat' (first | (refine gO ?_; refine p_skip rfl ?_) | (refine gO ?_; first | refine p_val rfl (gives_pure rfl) ?_ | (refine gB .add ?_; first | refine p_val rfl (g_add_i rfl rfl (by omega) (by omega)) ?_ | refine p_val rfl (g_add_u rfl rfl (by omega) (by omega)) ?_) | (refine gB _ ?_; first | refine p_cmp_t rfl rfl rfl rfl (by first | exact rfl | (simp only [cmpProp]; omega) | decide) ?_ | refine p_cmp_f rfl rfl rfl rfl (by first | exact rfl | (simp only [cmpProp]; omega) | decide) ?_ | (refine p_cmp rfl rfl rfl rfl (fun hc => ?_) (fun hc => ?_) <;> simp only [cmpProp] at hc)) | refine p_val rfl (g_conv_i rfl (by omega) (by omega)) ?_ | refine p_val rfl (g_conv_u rfl (by omega) (by omega)) ?_) | refine x_nil ?_ | (refine gX ?_; first | refine x_seq ?_ | refine x_ops ?_ | refine x_cond_t rfl ?_ | refine x_cond_f rfl ?_ | refine x_skip ?_))
  refine p_call rfl rfl (header_Lock_spec (x + 9223372036854775808) (by omega) (by omega) h) ?_
  rintro _ w ⟨rfl, h⟩
  rw [e2]
  repeat' (first | (refine gO ?_; refine p_skip rfl ?_) | (refine gO ?_; first | refine p_val rfl (gives_pure rfl) ?_ | (refine gB .add ?_; first | refine p_val rfl (g_add_i rfl rfl (by omega) (by omega)) ?_ | refine p_val rfl (g_add_u rfl rfl (by omega) (by omega)) ?_) | (refine gB _ ?_; first | refine p_cmp_t rfl rfl rfl rfl (by first | exact rfl | (simp only [cmpProp]; omega) | decide) ?_ | refine p_cmp_f rfl rfl rfl rfl (by first | exact rfl | (simp only [cmpProp]; omega) | decide) ?_ | (refine p_cmp rfl rfl rfl rfl (fun hc => ?_) (fun hc => ?_) <;> simp only [cmpProp] at hc)) | refine p_val rfl (g_conv_i rfl (by omega) (by omega)) ?_ | refine p_val rfl (g_conv_u rfl (by omega) (by omega)) ?_) | refine x_nil ?_ | (refine gX ?_; first | refine x_seq ?_ | refine x_ops ?_ | refine x_cond_t rfl ?_ | refine x_cond_f rfl ?_ | refine x_skip ?_))
  refine p_call rfl rfl (header_Unlock_spec (x + 9223372036854775808) (by omega) (by omega) h) ?_
  rintro _ w ⟨rfl, h⟩
  rw [e3]
  repeat' (first | (refine gO ?_; refine p_skip rfl ?_) | (refine gO ?_; first | refine p_val rfl (gives_pure rfl) ?_ | (refine gB .add ?_; first | refine p_val rfl (g_add_i rfl rfl (by omega) (by omega)) ?_ | refine p_val rfl (g_add_u rfl rfl (by omega) (by omega)) ?_) | (refine gB _ ?_; first | refine p_cmp_t rfl rfl rfl rfl (by first | exact rfl | (simp only [cmpProp]; omega) | decide) ?_ | refine p_cmp_f rfl rfl rfl rfl (by first | exact rfl | (simp only [cmpProp]; omega) | decide) ?_ | (refine p_cmp rfl rfl rfl rfl (fun hc => ?_) (fun hc => ?_) <;> simp only [cmpProp] at hc)) | refine p_val rfl (g_conv_i rfl (by omega) (by omega)) ?_ | refine p_val rfl (g_conv_u rfl (by omega) (by omega)) ?_) | refine x_nil ?_ | (refine gX ?_; first | refine x_seq ?_ | refine x_ops ?_ | refine x_cond_t rfl ?_ | refine x_cond_f rfl ?_ | refine x_skip ?_))
  refine p_call rfl rfl (header_Locked_spec ((x + 1) % 4294967296) (by omega) (by omega) h) ?_
  rintro _ w ⟨⟨rfl, hp⟩ | ⟨rfl, hp⟩, h⟩
  · exfalso; omega
  · repeat' (first | (refine gO ?_; refine p_skip rfl ?_) | (refine p_val rfl (g_addw_u32 rfl rfl) ?_) | (refine gO ?_; first | refine p_val rfl (gives_pure rfl) ?_ | (refine gB .add ?_; first | refine p_val rfl (g_add_i rfl rfl (by omega) (by omega)) ?_ | refine p_val rfl (g_add_u rfl rfl (by omega) (by omega)) ?_) | (refine gB _ ?_; first | refine p_cmp_t rfl rfl rfl rfl (by first | exact rfl | (simp only [cmpProp]; omega) | decide) ?_ | refine p_cmp_f rfl rfl rfl rfl (by first | exact rfl | (simp only [cmpProp]; omega) | decide) ?_ | (refine p_cmp rfl rfl rfl rfl (fun hc => ?_) (fun hc => ?_) <;> simp only [cmpProp] at hc)) | refine p_val rfl (g_conv_i rfl (by omega) (by omega)) ?_ | refine p_val rfl (g_conv_u rfl (by omega) (by omega)) ?_) | refine x_nil ?_ | (refine gX ?_; first | refine x_seq ?_ | refine x_ops ?_ | refine x_cond_t rfl ?_ | refine x_cond_f rfl ?_ | refine x_skip ?_))
    exact x_ret' is_law08_HeaderTurns rfl ⟨rfl, h⟩

theorem law08_HeaderLengths_spec (k v x : Int) (h0 : 0 ≤ x) (h1 : x ≤ 18446744073709551615) (h : Sat S w G) :
    Ret Try.prog F.law08_HeaderLengths #[.int .i64 k, .int .i64 v, .int .u64 x] w (fun v w' => v = .bool true ∧ Sat S w' G) := by
  refine ret_of is_law08_HeaderLengths rfl ?_
  have hb := lengthsV_bounds k v
  repeat' (first | (refine gO ?_; refine p_skip rfl ?_) | (refine p_call rfl rfl (law08_awake_spec h) ?_; rintro _ w ⟨rfl, h⟩) | (refine gO ?_; first | refine p_val rfl (gives_pure rfl) ?_ | (refine gB _ ?_; first | refine p_cmp_t rfl rfl rfl rfl (by first | exact rfl | (simp only [cmpProp]; omega) | decide) ?_ | refine p_cmp_f rfl rfl rfl rfl (by first | exact rfl | (simp only [cmpProp]; omega) | decide) ?_ | (refine p_cmp rfl rfl rfl rfl (fun hc => ?_) (fun hc => ?_) <;> simp only [cmpProp] at hc))) | refine x_nil ?_ | (refine gX ?_; first | refine x_seq ?_ | refine x_ops ?_ | refine x_cond_t rfl ?_ | refine x_cond_f rfl ?_ | refine x_skip ?_))
  by_cases hk : 0 ≤ k ∧ k ≤ 64 ∧ 0 ≤ v ∧ v ≤ 128
  · have e1 : lengthsV k v = (k + v * 65536 + 189850439385088, 0) := by rw [lengthsV, if_neg (by omega), if_neg (by omega)]
    have e2 : toldP (k + v * 65536 + 189850439385088) := by unfold toldP; omega
    have e3 : (k + v * 65536 + 189850439385088) % 65536 = k := by omega
    have e4 : (k + v * 65536 + 189850439385088) / 65536 % 65536 = v := by omega
    refine p_call rfl rfl (header_Lengths_spec k v h) ?_
    rintro _ w ⟨rfl, h⟩
    rw [e1]
    repeat' (first | (refine gO ?_; refine p_skip rfl ?_) | (refine gO ?_; first | refine p_val rfl (gives_pure rfl) ?_ | (refine gB _ ?_; first | refine p_cmp_t rfl rfl rfl rfl (by first | exact rfl | (simp only [cmpProp]; omega) | decide) ?_ | refine p_cmp_f rfl rfl rfl rfl (by first | exact rfl | (simp only [cmpProp]; omega) | decide) ?_ | (refine p_cmp rfl rfl rfl rfl (fun hc => ?_) (fun hc => ?_) <;> simp only [cmpProp] at hc))) | refine x_nil ?_ | (refine gX ?_; first | refine x_seq ?_ | refine x_ops ?_ | refine x_cond_t rfl ?_ | refine x_cond_f rfl ?_ | refine x_skip ?_))
    refine p_call rfl rfl (ref08_Lengths_spec k v h) ?_
    rintro _ w ⟨rfl, h⟩
    rw [e1]
    repeat' (first | (refine gO ?_; refine p_skip rfl ?_) | (refine gO ?_; first | refine p_val rfl (gives_pure rfl) ?_ | (refine gB _ ?_; first | refine p_cmp_t rfl rfl rfl rfl (by first | exact rfl | (simp only [cmpProp]; omega) | decide) ?_ | refine p_cmp_f rfl rfl rfl rfl (by first | exact rfl | (simp only [cmpProp]; omega) | decide) ?_ | (refine p_cmp rfl rfl rfl rfl (fun hc => ?_) (fun hc => ?_) <;> simp only [cmpProp] at hc))) | refine x_nil ?_ | (refine gX ?_; first | refine x_seq ?_ | refine x_ops ?_ | refine x_cond_t rfl ?_ | refine x_cond_f rfl ?_ | refine x_skip ?_))
    refine p_call rfl rfl (header_Told_spec (k + v * 65536 + 189850439385088) (by omega) (by omega) h) ?_
    rintro _ w ⟨⟨_, rfl⟩ | ⟨hn, _⟩, h⟩
    · rw [e3, e4]
      repeat' (first | (refine gO ?_; refine p_skip rfl ?_) | (refine gO ?_; first | refine p_val rfl (gives_pure rfl) ?_ | (refine gB _ ?_; first | refine p_cmp_t rfl rfl rfl rfl (by first | exact rfl | (simp only [cmpProp]; omega) | decide) ?_ | refine p_cmp_f rfl rfl rfl rfl (by first | exact rfl | (simp only [cmpProp]; omega) | decide) ?_ | (refine p_cmp rfl rfl rfl rfl (fun hc => ?_) (fun hc => ?_) <;> simp only [cmpProp] at hc))) | refine x_nil ?_ | (refine gX ?_; first | refine x_seq ?_ | refine x_ops ?_ | refine x_cond_t rfl ?_ | refine x_cond_f rfl ?_ | refine x_skip ?_))
      refine p_call rfl rfl (header_Told_spec x h0 h1 h) ?_
      rintro _ w ⟨⟨ht, rfl⟩ | ⟨ht, rfl⟩, h⟩
      all_goals
        repeat' (first | (refine gO ?_; refine p_skip rfl ?_) | (refine gO ?_; first | refine p_val rfl (gives_pure rfl) ?_ | (refine gB _ ?_; first | refine p_cmp_t rfl rfl rfl rfl (by first | exact rfl | (simp only [cmpProp]; omega) | decide) ?_ | refine p_cmp_f rfl rfl rfl rfl (by first | exact rfl | (simp only [cmpProp]; omega) | decide) ?_ | (refine p_cmp rfl rfl rfl rfl (fun hc => ?_) (fun hc => ?_) <;> simp only [cmpProp] at hc))) | refine x_nil ?_ | (refine gX ?_; first | refine x_seq ?_ | refine x_ops ?_ | refine x_cond_t rfl ?_ | refine x_cond_f rfl ?_ | refine x_skip ?_))
      all_goals refine p_call rfl rfl (ref08_Told_spec x h0 h1 h) ?_
      all_goals rintro _ w ⟨⟨ht2, rfl⟩ | ⟨ht2, rfl⟩, h⟩
      all_goals first | contradiction | skip
      all_goals
        repeat' (first | (refine gO ?_; refine p_skip rfl ?_) | (refine gO ?_; first | refine p_val rfl (gives_pure rfl) ?_ | (refine gB _ ?_; first | refine p_cmp_t rfl rfl rfl rfl (by first | exact rfl | (simp only [cmpProp]; omega) | decide) ?_ | refine p_cmp_f rfl rfl rfl rfl (by first | exact rfl | (simp only [cmpProp]; omega) | decide) ?_ | (refine p_cmp rfl rfl rfl rfl (fun hc => ?_) (fun hc => ?_) <;> simp only [cmpProp] at hc))) | refine x_nil ?_ | (refine gX ?_; first | refine x_seq ?_ | refine x_ops ?_ | refine x_cond_t rfl ?_ | refine x_cond_f rfl ?_ | refine x_skip ?_))
      all_goals exact x_ret' is_law08_HeaderLengths rfl ⟨rfl, h⟩
    · exact absurd e2 hn
  · have e1 : (lengthsV k v).1 = 0 ∧ ((lengthsV k v).2 = 1 ∨ (lengthsV k v).2 = 5) := by
      unfold lengthsV
      split
      · simp
      · split
        · simp
        · omega
    obtain ⟨e1, e2⟩ := e1
    generalize hq : lengthsV k v = q at *
    obtain ⟨q1, q2⟩ := q
    obtain rfl : q1 = 0 := e1
    have e2 : q2 = 1 ∨ q2 = 5 := e2
    refine p_call rfl rfl (header_Lengths_spec k v h) ?_
    rintro _ w ⟨rfl, h⟩
    rw [hq]
    repeat' (first | (refine gO ?_; refine p_skip rfl ?_) | (refine gO ?_; first | refine p_val rfl (gives_pure rfl) ?_ | (refine gB _ ?_; first | refine p_cmp_t rfl rfl rfl rfl (by first | exact rfl | (simp only [cmpProp]; omega) | decide) ?_ | refine p_cmp_f rfl rfl rfl rfl (by first | exact rfl | (simp only [cmpProp]; omega) | decide) ?_ | (refine p_cmp rfl rfl rfl rfl (fun hc => ?_) (fun hc => ?_) <;> simp only [cmpProp] at hc))) | refine x_nil ?_ | (refine gX ?_; first | refine x_seq ?_ | refine x_ops ?_ | refine x_cond_t rfl ?_ | refine x_cond_f rfl ?_ | refine x_skip ?_))
    refine p_call rfl rfl (ref08_Lengths_spec k v h) ?_
    rintro _ w ⟨rfl, h⟩
    rw [hq]
    repeat' (first | (refine gO ?_; refine p_skip rfl ?_) | (refine gO ?_; first | refine p_val rfl (gives_pure rfl) ?_ | (refine gB _ ?_; first | refine p_cmp_t rfl rfl rfl rfl (by first | exact rfl | (simp only [cmpProp]; omega) | decide) ?_ | refine p_cmp_f rfl rfl rfl rfl (by first | exact rfl | (simp only [cmpProp]; omega) | decide) ?_ | (refine p_cmp rfl rfl rfl rfl (fun hc => ?_) (fun hc => ?_) <;> simp only [cmpProp] at hc))) | refine x_nil ?_ | (refine gX ?_; first | refine x_seq ?_ | refine x_ops ?_ | refine x_cond_t rfl ?_ | refine x_cond_f rfl ?_ | refine x_skip ?_))
    refine p_call rfl rfl (header_Told_spec x h0 h1 h) ?_
    rintro _ w ⟨⟨ht, rfl⟩ | ⟨ht, rfl⟩, h⟩
    all_goals
      repeat' (first | (refine gO ?_; refine p_skip rfl ?_) | (refine gO ?_; first | refine p_val rfl (gives_pure rfl) ?_ | (refine gB _ ?_; first | refine p_cmp_t rfl rfl rfl rfl (by first | exact rfl | (simp only [cmpProp]; omega) | decide) ?_ | refine p_cmp_f rfl rfl rfl rfl (by first | exact rfl | (simp only [cmpProp]; omega) | decide) ?_ | (refine p_cmp rfl rfl rfl rfl (fun hc => ?_) (fun hc => ?_) <;> simp only [cmpProp] at hc))) | refine x_nil ?_ | (refine gX ?_; first | refine x_seq ?_ | refine x_ops ?_ | refine x_cond_t rfl ?_ | refine x_cond_f rfl ?_ | refine x_skip ?_))
    all_goals refine p_call rfl rfl (ref08_Told_spec x h0 h1 h) ?_
    all_goals rintro _ w ⟨⟨ht2, rfl⟩ | ⟨ht2, rfl⟩, h⟩
    all_goals first | contradiction | skip
    all_goals
      repeat' (first | (refine gO ?_; refine p_skip rfl ?_) | (refine gO ?_; first | refine p_val rfl (gives_pure rfl) ?_ | (refine gB _ ?_; first | refine p_cmp_t rfl rfl rfl rfl (by first | exact rfl | (simp only [cmpProp]; omega) | decide) ?_ | refine p_cmp_f rfl rfl rfl rfl (by first | exact rfl | (simp only [cmpProp]; omega) | decide) ?_ | (refine p_cmp rfl rfl rfl rfl (fun hc => ?_) (fun hc => ?_) <;> simp only [cmpProp] at hc))) | refine x_nil ?_ | (refine gX ?_; first | refine x_seq ?_ | refine x_ops ?_ | refine x_cond_t rfl ?_ | refine x_cond_f rfl ?_ | refine x_skip ?_))
    all_goals exact x_ret' is_law08_HeaderLengths rfl ⟨rfl, h⟩
end
theorem HeaderLocks_law (a0 : Int) (W : World) (w0 : (Lit.int .u64 a0).wf = true) :
    Ret Try.prog F.law08_HeaderLocks #[.int .u64 a0] W (fun v w' => v = .bool true ∧ Sat ⟨W.heap.size, W⟩ w' []) :=
  law08_HeaderLocks_spec a0 (wf_u64 w0).1 (wf_u64 w0).2 (Sat.begin W)
theorem HeaderTurns_law (a0 : Int) (W : World) (w0 : (Lit.int .u32 a0).wf = true) :
    Ret Try.prog F.law08_HeaderTurns #[.int .u32 a0] W (fun v w' => v = .bool true ∧ Sat ⟨W.heap.size, W⟩ w' []) :=
  law08_HeaderTurns_spec a0 (wf_u32 w0).1 (wf_u32 w0).2 (Sat.begin W)
theorem HeaderLengths_law (a0 a1 a2 : Int) (W : World) (_w0 : (Lit.int .i64 a0).wf = true) (_w1 : (Lit.int .i64 a1).wf = true) (w2 : (Lit.int .u64 a2).wf = true) :
    Ret Try.prog F.law08_HeaderLengths #[.int .i64 a0, .int .i64 a1, .int .u64 a2] W (fun v w' => v = .bool true ∧ Sat ⟨W.heap.size, W⟩ w' []) :=
  law08_HeaderLengths_spec a0 a1 a2 (wf_u64 w2).1 (wf_u64 w2).2 (Sat.begin W)
end Go.Proofs.Ytbinpajhmnfhoaa
